import Derived.Test.YthckagkciefliaaGreatDoorBdb

/-
  An event that came in by value. No program in sight.
-/
set_option linter.unusedVariables false
namespace Go.Proofs.YthckagkciefliaaGreatDoor.AL
open Go Go.ChangeShapes Go.WideShapes Go.ChangeAt Go.RowKit Go.Deep Go.Joins Go.WideElems
open Go.Proofs.YthckagkciefliaaGreatDoor.Vc Go.Proofs.YthckagkciefliaaGreatDoor.Mt Go.Proofs.YthckagkciefliaaGreatDoor.Ev Go.Proofs.YthckagkciefliaaGreatDoor.Hx

section
variable {H : Type} {enc : TypeId × Value → H} {P : Program}

def listInt (cs : List Value) (i : Nat) : Int :=
  match cs[i]? with
  | some (.int _ z) => z
  | _ => 0
/-- The numbers of an array among cells. -/
theorem open_cells_array {W : World} {m base n : Nat} {sp : Nat → Bool} {hd : Bool} {t e : TypeId} {k : IntKind} {cs : List Value} {x : DataW H × List MemPlace} (ht : P.underlying t = some (.array n e)) (he : P.underlying e = some (.int k)) (hc : P.cellsOf e = 1)
    (hf : DataW.trod enc P W base sp hd m t cs = some x) : ∃ xs : List Int, xs.length = n ∧ (∀ y ∈ xs, (Lit.int k y).wf = true) ∧ ∀ i, i < n → cs[i]? = some (.int k (xs.getD i 0)) := by
  obtain ⟨ys, m', _, _, _, hl, hel⟩ := DataW.trod_array ht hf
  have each : ∀ i, i < n → ∃ z, cs[i]? = some (.int k z) ∧ (Lit.int k z).wf = true := fun i hi => by
    have h1 := hel i hi
    rw [hc, Nat.mul_one, List.getElem?_eq_getElem (by omega)] at h1
    obtain ⟨z, e1, _, hw⟩ := DataW.trod_int he h1
    refine ⟨z, ?_, hw⟩
    have h2 : ((cs.drop i).take 1)[0]? = some (.int k z) := by rw [e1]; rfl
    simpa using h2
  refine ⟨(List.range n).map (listInt cs), by simp, fun y hy => ?_, fun i hi => ?_⟩
  · obtain ⟨i, hi, rfl⟩ := List.mem_map.1 hy
    obtain ⟨z, e1, hw⟩ := each i (List.mem_range.1 hi)
    simp only [listInt, e1]
    exact hw
  · obtain ⟨z, e1, _⟩ := each i hi
    simp [hi, e1, listInt]

structure EvT (P : Program) (t e ea : TypeId) (f0 f1 f2 f3 f4 f5 g0 g1 : Field) : Prop where
  s : P.underlying t = some (.struct #[f0, f1, f2, f3, f4, f5])
  c : P.cellsOf t = 38
  off : f0.offset = 0 ∧ f1.offset = 2 ∧ f2.offset = 3 ∧ f3.offset = 4 ∧ f4.offset = 5 ∧ f5.offset = 37
  dot : P.underlying f0.type = some (.struct #[g0, g1])
  cdot : P.cellsOf f0.type = 2
  goff : g0.offset = 0 ∧ g1.offset = 1
  h0 : P.underlying g0.type = some (.int .i64)
  h1 : P.underlying g1.type = some (.int .i64)
  c0 : P.cellsOf g0.type = 1
  c1 : P.cellsOf g1.type = 1
  vec : P.underlying f1.type = some (.slice e)
  cvec : P.cellsOf f1.type = 1
  el : P.underlying e = some (.struct #[g0, g1])
  cel : P.cellsOf e = 2
  kind : P.underlying f2.type = some (.int .i64)
  ckind : P.cellsOf f2.type = 1
  path : P.underlying f3.type = some .string
  cpath : P.cellsOf f3.type = 1
  sum : P.underlying f4.type = some (.array 32 ea)
  csum : P.cellsOf f4.type = 32
  byte : P.underlying ea = some (.int .u8)
  cbyte : P.cellsOf ea = 1
  size : P.underlying f5.type = some (.int .i64)
  csize : P.cellsOf f5.type = 1

theorem one_of {cs : List Value} {off : Nat} {u : Value} (h : (cs.drop off).take 1 = [u]) : cs[off]? = some u := by
  have := congrArg (fun l : List Value => l[0]?) h
  simpa using this
/-- The shape of events, in this program. -/
structure Fl where
  f0 : Field
  f1 : Field
  f2 : Field
  f3 : Field
  f4 : Field
  f5 : Field
  g0 : Field
  g1 : Field
theorem evT : ∃ F : Fl, EvT Tryz.prog 41 35 5 F.f0 F.f1 F.f2 F.f3 F.f4 F.f5 F.g0 F.g1 :=
  ⟨⟨_, _, _, _, _, _, _, _⟩, { s := Tryz.underlying41, c := (by kernel_rfl), off := ⟨rfl, rfl, rfl, rfl, rfl, rfl⟩, dot := Tryz.underlying35, cdot := (by kernel_rfl), goff := ⟨rfl, rfl⟩, h0 := (by kernel_rfl), h1 := (by kernel_rfl), c0 := (by kernel_rfl), c1 := (by kernel_rfl), vec := (by kernel_rfl), cvec := (by kernel_rfl), el := Tryz.underlying35, cel := (by kernel_rfl), kind := (by kernel_rfl), ckind := (by kernel_rfl), path := (by kernel_rfl), cpath := (by kernel_rfl), sum := (by kernel_rfl), csum := (by kernel_rfl), byte := (by kernel_rfl), cbyte := (by kernel_rfl), size := (by kernel_rfl), csize := (by kernel_rfl) }⟩

/-- An event's cells. -/
theorem open_event_cells {W : World} {n base : Nat} {t e ea : TypeId} {f0 f1 f2 f3 f4 f5 g0 g1 : Field} {cs : List Value} {y : DataW H × List MemPlace} (T : EvT P t e ea f0 f1 f2 f3 f4 f5 g0 g1)
    (hf : DataW.trod enc P W base (fun _ => true) true n t cs = some y) (hlt : ∀ p ∈ y.2, p.block < W.heap.size) :
    ∃ E : Ev, (E.deps.length ≤ maxLen ∧ E.sum.length = 32 ∧ (∀ x ∈ E.sum, (Lit.int .u8 x).wf = true) ∧ (Lit.int .i64 E.r).wf = true ∧ (Lit.int .i64 E.q).wf = true ∧ (Lit.int .i64 E.size).wf = true ∧ E.path.size ∈ y.1.weights P t) ∧
      cs.length = 38 ∧ ∀ i, i < 38 → ∃ u, cs[i]? = some u ∧ den W (allB W) .zero (evC E i) u := by
  obtain ⟨o0, o1, o2, o3, o4, o5⟩ := T.off
  obtain ⟨m0, z0, e0, p0⟩ := field_at T.s hf hlt 0 (f := f0) rfl
  obtain ⟨m1, z1, e1, p1⟩ := field_at T.s hf hlt 1 (f := f1) rfl
  obtain ⟨m2, z2, e2, p2⟩ := field_at T.s hf hlt 2 (f := f2) rfl
  obtain ⟨m4, z4, e4, p4⟩ := field_at T.s hf hlt 4 (f := f4) rfl
  obtain ⟨m5, z5, e5, p5⟩ := field_at T.s hf hlt 5 (f := f5) rfl
  rw [T.cdot, o0] at e0
  rw [T.cvec, o1] at e1
  rw [T.ckind, o2] at e2
  rw [T.csum, o4] at e4
  rw [T.csize, o5] at e5
  obtain ⟨n0, y0, d0, _⟩ := field_at T.dot e0 p0 0 (f := g0) rfl
  obtain ⟨n1, y1, d1, _⟩ := field_at T.dot e0 p0 1 (f := g1) rfl
  rw [T.c0, T.goff.1] at d0
  rw [T.c1, T.goff.2] at d1
  obtain ⟨R, qr, _, wr⟩ := DataW.trod_int T.h0 d0
  obtain ⟨Q, qq, _, wq⟩ := DataW.trod_int T.h1 d1
  obtain ⟨K, qk, _, wk⟩ := DataW.trod_int T.kind e2
  obtain ⟨Z, qz, _, wz⟩ := DataW.trod_int T.size e5
  obtain ⟨S, hS, wS, qS⟩ := open_cells_array T.sum T.byte T.cbyte e4
  have one : ∃ u, (cs.drop 2).take 1 = [u] := by
    rcases DataW.trod_slice T.vec e1 with ⟨hcs, _⟩ | ⟨a, len, cap, elems, rest, n', _, hcs, _⟩
    · exact ⟨_, hcs⟩
    · exact ⟨_, hcs⟩
  obtain ⟨u, hu⟩ := one
  rw [hu] at e1
  obtain ⟨l, l1, l2⟩ := open_vec_cell T.vec T.el T.cel T.h0 T.h1 T.c0 T.c1 T.goff e1 p1
  obtain ⟨xs, m, _, hy, hlen, hxl, hfs⟩ := DataW.trod_struct T.s hf
  have e3 := hfs 3 f3 rfl
  rw [T.cpath, o3] at e3
  have hx3 : 3 < xs.length := by rw [hxl]; show 3 < 6; decide
  rw [List.getElem?_eq_getElem hx3] at e3
  obtain ⟨s, qs, hxs, _⟩ := DataW.trod_string T.path e3
  rw [T.c] at hlen
  refine ⟨⟨R, Q, l, K, s, S, Z⟩, ⟨l1, hS, wS, wr, wq, wz, ?_⟩, hlen, fun i hi => ?_⟩
  · rw [hy]
    show s.size ∈ DataW.weights P t (.agg (xs.map (·.1)))
    unfold DataW.weights
    rw [T.s]
    refine DataW.weights_mem_each (j := 3) (t := f3.type) (d := .lit (.string s.data.toList)) rfl ?_ _ ?_
    · rw [List.getElem?_map, List.getElem?_eq_getElem hx3, hxs]; rfl
    · unfold DataW.weights
      exact List.mem_singleton.2 rfl
  · match i, hi with
    | 0, _ => exact ⟨_, by have := one_of qr; simpa using this, rfl⟩
    | 1, _ => exact ⟨_, by have := one_of qq; simpa using this, rfl⟩
    | 2, _ => exact ⟨_, one_of hu, l2⟩
    | 3, _ => exact ⟨_, one_of qk, rfl⟩
    | 4, _ => exact ⟨_, one_of qs, rfl⟩
    | i + 5, hi =>
      rcases Nat.lt_or_ge i 32 with h | h
      · refine ⟨.int .u8 (S.getD i 0), ?_, ?_⟩
        · have := qS i h
          rw [List.getElem?_take, if_pos h, List.getElem?_drop] at this
          rw [Nat.add_comm]; exact this
        · show den W _ .zero (if i = 32 then int .i64 Z else int .u8 (S.getD i 0)) _
          rw [if_neg (by omega)]
          rfl
      · obtain rfl : i = 32 := by omega
        exact ⟨_, one_of qz, rfl⟩
/-- An event that came in. -/
theorem open_event {W : World} {base : Nat} {t e ea : TypeId} {f0 f1 f2 f3 f4 f5 g0 g1 : Field} {v : Value} {d : DataW H} {ps : List MemPlace} (T : EvT P t e ea f0 f1 f2 f3 f4 f5 g0 g1)
    (hval : Value.okWide P W .any base t v) (h : DataW.Trod enc P W 0 (fun _ => true) true t v d ps) (hlt : ∀ x ∈ ps, x.block < W.heap.size) :
    ∃ E : Ev, den W (allB W) .zero (evV E) v ∧ ((∀ n ∈ d.weights P t, n ≤ reachBytes) → Fit E) := by
  obtain ⟨cs, rfl, hsz⟩ := okWide_struct T.s hval
  obtain ⟨fuel, hf⟩ := h
  obtain ⟨E, ⟨h1, h2, h3, h4, h5, h6, h7⟩, h8, h9⟩ := open_event_cells T hf hlt
  refine ⟨E, ⟨cs, rfl, hsz.trans T.c, fun i hi => ?_⟩, fun hw => ?_⟩
  · obtain ⟨u, g1, g2⟩ := h9 i hi
    exact ⟨u, by simpa [Value.cells] using g1, g2⟩
  · have := hw _ h7
    have := reachBytes_lt
    have w5 := wf_i64 h5
    have w6 := wf_i64 h6
    exact ⟨by unfold maxLen at h1; omega, by omega, h2, fun x hx => wf_u8 (h3 x hx), w5, w6⟩

end
end Go.Proofs.YthckagkciefliaaGreatDoor.AL

/-
  The laws of event, walked: EventBack, EventBad.
-/
set_option linter.unusedVariables false
set_option linter.unusedSectionVars false
namespace Go.Proofs.YthckagkciefliaaGreatDoor.Ev
open Go AL Spl Hx Dt Vc Pa

theorem lineE_cases (e : Ev) : lineE e = 0 ∧ mayE e ∨ lineE e = 1 ∧ ¬ mayE e ∧ lineS e = ByteArray.empty := by
  unfold lineE lineS
  by_cases h : mayE e
  · exact .inl ⟨if_pos h, h⟩
  · exact .inr ⟨if_neg h, h, if_neg h⟩
theorem same_iff {e f : Ev} : sameE e f ↔ e = f := by
  unfold sameE
  obtain ⟨⟩ := e
  obtain ⟨⟩ := f
  simp only [Ev.mk.injEq]
  exact ⟨fun ⟨⟨a, b⟩, c⟩ => ⟨a, b, c⟩, fun ⟨a, b, c⟩ => ⟨⟨a, b⟩, c⟩⟩
theorem parseEe_cases (ps : List ByteArray) : parseEe ps = 0 ∨ parseEe ps = 2 ∧ parseEv ps = noneE := by
  by_cases h : parseEe ps = 0
  · exact .inl h
  · have := parse_none h; exact .inr ⟨this.1, this.2.1⟩
theorem line_size {e : Ev} (hf : Fit e) : (lineS e).size ≤ 2000 := by
  unfold lineS
  split
  · rename_i h
    have hpl : e.path.size ≤ 254 := h.1.2.2.2.1.2.1
    have hd : (textD e.r e.q).size ≤ 43 := text_size_le (by have := h.1.1.1; have := h.1.1.2.1; omega) hf.q
    have hvl : (textV (ofF (cntF e.deps))).size ≤ 1408 := Mt.textR_size e.deps
    have h64 : (textS e.sum).size = 64 := (Hx.parse_text hf.sum hf.byte).2.2
    have h21 := num_size_le hf.size.1 hf.size.2
    have hl : ∀ ws, (lineT ws).size = (joinC 32 (ws.map (·.data.toList))).length := fun ws => by rw [← lineT_list]; rfl
    rw [hl]
    unfold wordsE
    split
    · simp only [joinC, List.map_cons, List.map_nil, List.flatMap_cons, List.flatMap_nil, List.length_append, List.length_cons, List.length_nil]
      show 3 + ((textD e.r e.q).size + 1 + ((textV (ofF (cntF e.deps))).size + 1 + (e.path.size + 1 + 0))) ≤ _
      omega
    · simp only [joinC, List.map_cons, List.map_nil, List.flatMap_cons, List.flatMap_nil, List.length_append, List.length_cons, List.length_nil]
      show 3 + ((textD e.r e.q).size + 1 + ((textV (ofF (cntF e.deps))).size + 1 + (e.path.size + 1 + ((textS e.sum).size + 1 + ((numS e.size).size + 1 + 0))))) ≤ _
      omega
  · exact Nat.zero_le _

section
variable [Globs]

set_option maxHeartbeats 4000000 in
set_option maxRecDepth 10000 in
theorem back_event (hG : NumG) (e : Ev) (s : ByteArray) (he : Fit e) (_ : s.size ≤ 9223372036854775807) : ACalls Tryz.prog 5 [evV e, str s] [] (fun r h => r = .tt ∧ h = []) := by
  have ha := awake_event hG
  have h1 := line_event hG e he
  have h2 := parse_event hG (lineS e) (by have := line_size he; omega)
  have k2 : mayE e → parseEv (pcs 32 (lineS e)) = e ∧ parseEe (pcs 32 (lineS e)) = 0 := fun h => parse_line h he
  have h3 := may_event hG e he
  have hc := lineE_cases e
  have h5 := fun hs => parse_event hG s hs
  have hfit := fun hs => fit_parse (s := s) hs
  have h6 := fun hs => line_event hG (parseEv (pcs 32 s)) (hfit hs)
  have h7 := fun hs => may_event hG (parseEv (pcs 32 s)) (hfit hs)
  have q1 := fun h => line_parse (s := s) h
  have q2 := parseEe_cases (pcs 32 s)
  have q3 := lineE_cases (parseEv (pcs 32 s))
  have hsz := line_size he
  generalize parseEv (pcs 32 (lineS e)) = PE at *
  generalize parseEe (pcs 32 (lineS e)) = PX at *
  generalize lineS e = LS at *
  generalize lineE e = LE at *
  generalize parseEe (pcs 32 s) = QX at *
  generalize parseEv (pcs 32 s) = QE at *
  generalize lineS QE = LQ at *
  generalize lineE QE = LX at *
  refine rcalls Tryz.func5 rfl (by decide) ?_
  refine ⟨[], _, ha, ?_⟩
  rintro r hh ⟨rfl, rfl⟩
  refine ⟨.inl rfl, ?_⟩
  refine ⟨fun c => ?_, fun c => ⟨fun c2 => ?_, fun c2 => ?_⟩⟩
  · exact ⟨[], [], _, lehN _, .tt, rfl, rfl⟩
  · exact ⟨[], [], _, lehN _, .tt, rfl, rfl⟩
  have hs : (s.size : Int) ≤ 5000 := by have := no c2; omega
  have h5 := h5 (by omega)
  have h6 := h6 (by omega)
  have h7 := h7 (by omega)
  refine ⟨[], _, box_free e, h1.args ⟨vbox e, trivial⟩, ?_⟩
  rintro r hh ⟨rfl, rfl⟩
  refine ⟨.inl rfl, ?_⟩
  refine ⟨fun c3 => ?_, fun c3 => ?_⟩
  · have hm : mayE e := by
      rcases hc with hc | hc
      · exact hc.2
      · exact absurd hc.1 (by have := yes c3; omega)
    obtain ⟨rfl, rfl⟩ := k2 hm
    obtain rfl : LE = 0 := yes c3
    have h3 := h3.yes (decide_eq_true hm)
    have h4 := (same_eref PE PE he he).yes (decide_eq_true (same_iff.2 rfl))
    refine ⟨[], _, h2, ?_⟩
    rintro r hh ⟨rfl, rfl⟩
    refine ⟨.inl rfl, ?_⟩
    refine ⟨fun c4 => absurd rfl (yes c4), fun _ => ?_⟩
    refine ⟨[], _, box2_free PE _, box_free PE, h4.args ⟨vbox2 PE _, vbox PE, trivial⟩, ?_⟩
    rintro r hh ⟨rfl, rfl⟩
    refine ⟨.inl rfl, ?_⟩
    refine ⟨[], _, h5, ?_⟩
    rintro r hh ⟨rfl, rfl⟩
    refine ⟨.inl rfl, ?_⟩
    refine ⟨[], _, box2_free QE _, h6.args ⟨vbox2 QE _, trivial⟩, ?_⟩
    rintro r hh ⟨rfl, rfl⟩
    refine ⟨.inl rfl, ?_⟩
    refine ⟨[], _, box_free PE, h3.args ⟨vbox PE, trivial⟩, ?_⟩
    rintro r hh ⟨rfl, rfl⟩
    refine ⟨.inl rfl, ?_⟩
    refine ⟨fun _ => ?_, fun g => (nof g rfl).elim⟩
    refine ⟨fun d => ?_, fun d => ?_⟩
    · obtain ⟨m1, m2⟩ := q1 (yes d)
      have h7 := h7.yes (decide_eq_true m1)
      have hx : LX = 0 := by
        rcases q3 with q3 | q3
        · exact q3.1
        · exact absurd m1 q3.2.1
      refine ⟨fun _ => ?_, fun g => absurd hx (no g)⟩
      refine ⟨[], _, box2_free QE _, h7.args ⟨vbox2 QE _, trivial⟩, ?_⟩
      rintro r hh ⟨rfl, rfl⟩
      refine ⟨.inl rfl, ?_⟩
      refine ⟨fun _ => ?_, fun g => absurd m2 (no g)⟩
      exact ⟨[], [], .tt, lehN _, .tt, rfl, rfl⟩
    · have d : ¬ QX = 0 := no d
      obtain ⟨m1, m2⟩ := q2.resolve_left d
      refine ⟨fun _ => ?_, fun g => absurd m1 (no g)⟩
      exact ⟨[], [], .tt, lehN _, leTT (decide_eq_true (by rw [m2]; rfl)), rfl, rfl⟩
  · have c3 : ¬ LE = 0 := no c3
    have hm : ¬ mayE e := fun h => by
      rcases hc with hc | hc
      · exact c3 hc.1
      · exact hc.2.1 h
    have h3 := h3.not (decide_eq_false hm)
    have c4 : (decide (LE = 0) == false) = true := by rw [decide_eq_false c3]; rfl
    refine ⟨[], _, h5, ?_⟩
    rintro r hh ⟨rfl, rfl⟩
    refine ⟨.inl rfl, ?_⟩
    refine ⟨[], _, box2_free QE _, h6.args ⟨vbox2 QE _, trivial⟩, ?_⟩
    rintro r hh ⟨rfl, rfl⟩
    refine ⟨.inl rfl, ?_⟩
    refine ⟨[], _, box_free e, h3.args ⟨vbox e, trivial⟩, ?_⟩
    rintro r hh ⟨rfl, rfl⟩
    refine ⟨.inl rfl, ?_⟩
    refine ⟨fun _ => ?_, fun g => (nof g c4).elim⟩
    refine ⟨fun d => ?_, fun d => ?_⟩
    · obtain ⟨m1, m2⟩ := q1 (yes d)
      have h7 := h7.yes (decide_eq_true m1)
      have hx : LX = 0 := by
        rcases q3 with q3 | q3
        · exact q3.1
        · exact absurd m1 q3.2.1
      refine ⟨fun _ => ?_, fun g => absurd hx (no g)⟩
      refine ⟨[], _, box2_free QE _, h7.args ⟨vbox2 QE _, trivial⟩, ?_⟩
      rintro r hh ⟨rfl, rfl⟩
      refine ⟨.inl rfl, ?_⟩
      refine ⟨fun _ => ?_, fun g => absurd m2 (no g)⟩
      exact ⟨[], [], .tt, lehN _, .tt, rfl, rfl⟩
    · have d : ¬ QX = 0 := no d
      obtain ⟨m1, m2⟩ := q2.resolve_left d
      refine ⟨fun _ => ?_, fun g => absurd m1 (no g)⟩
      exact ⟨[], [], .tt, lehN _, leTT (decide_eq_true (by rw [m2]; rfl)), rfl, rfl⟩

end
end Go.Proofs.YthckagkciefliaaGreatDoor.Ev

/-
  The laws of event, walked: EventBad.
-/
set_option linter.unusedVariables false
set_option linter.unusedSectionVars false
namespace Go.Proofs.YthckagkciefliaaGreatDoor.Ev
open Go AL Spl Hx Dt Vc Pa

theorem line_snoc {ws : List ByteArray} (h : ws ≠ []) : lineT ws ++ ⟨#[32]⟩ = lineT (ws ++ [ByteArray.empty]) := by
  refine bA_ext ?_
  rw [lineT_list, List.map_append, List.map_singleton, join_snoc 32 _ (by simpa using h), show (lineT ws ++ ⟨#[32]⟩).data.toList = (lineT ws).data.toList ++ [32] by simp, lineT_list]
  rfl
theorem line_front {ws : List ByteArray} (h : ws ≠ []) : (⟨#[32]⟩ : ByteArray) ++ lineT ws = lineT (ByteArray.empty :: ws) := by
  refine bA_ext ?_
  rw [show ((⟨#[32]⟩ : ByteArray) ++ lineT ws).data.toList = 32 :: (lineT ws).data.toList by simp, lineT_list, lineT_list]
  match ws, h with
  | a :: r, _ => rw [List.map_cons (a := ByteArray.empty), List.map_cons, join_cons]; rfl
theorem line_word {w w' : ByteArray} {ws : List ByteArray} (h3 : w.size = 3) (h : ws ≠ []) : w' ++ (lineT (w :: ws)).extract 3 (lineT (w :: ws)).size = lineT (w' :: ws) ∧ 4 ≤ (lineT (w :: ws)).size := by
  have hl : ∀ v, (lineT (v :: ws)).data.toList = v.data.toList ++ 32 :: joinC 32 (ws.map (·.data.toList)) := fun v => by
    rw [lineT_list]
    match ws, h with
    | a :: r, _ => rw [List.map_cons, List.map_cons, join_cons]
  have h3 : w.data.toList.length = 3 := h3
  have hs : (lineT (w :: ws)).size = (lineT (w :: ws)).data.toList.length := rfl
  refine ⟨?_, ?_⟩
  · refine bA_ext ?_
    rw [hl]
    have : (w' ++ (lineT (w :: ws)).extract 3 (lineT (w :: ws)).size).data.toList = w'.data.toList ++ ((lineT (w :: ws)).extract 3 (lineT (w :: ws)).size).data.toList := by simp
    rw [this, Dt.extract_list, hs, List.take_of_length_le (Nat.le_refl _), hl, List.drop_append_of_le_length (by omega), List.drop_of_length_le (by omega)]
    rfl
  · rw [hs, hl, List.length_append, List.length_cons]; omega
theorem other_len {ps : List ByteArray} (h4 : ps.length ≠ 4) (h6 : ps.length ≠ 6) : parseEe ps = 2 := by
  unfold parseEe
  rw [if_neg fun h => h.elim (fun x => h4 x.1) fun x => h6 x.1]
theorem words_len (e : Ev) : (wordsE e).length = 4 ∨ (wordsE e).length = 6 := by
  unfold wordsE; split
  · exact .inl rfl
  · exact .inr rfl
theorem bad_end {e : Ev} (h : mayE e) (hf : Fit e) : parseEe (pcs 32 (lineS e ++ ⟨#[32]⟩)) = 2 := by
  have : lineS e = lineT (wordsE e) := if_pos h
  rw [this, line_snoc (words_ne e), pcs_line (by simp) (fun p hp => by
    rw [List.map_append] at hp
    rcases List.mem_append.1 hp with hp | hp
    · exact words_free h hf p hp
    · have : p = [] := by simpa using hp
      subst this; intro x hx; cases hx)]
  have := words_len e
  exact other_len (by simp; omega) (by simp; omega)
theorem bad_front {e : Ev} (h : mayE e) (hf : Fit e) : parseEe (pcs 32 ((⟨#[32]⟩ : ByteArray) ++ lineS e)) = 2 := by
  have : lineS e = lineT (wordsE e) := if_pos h
  rw [this, line_front (words_ne e), pcs_line (by simp) (fun p hp => by
    rw [List.map_cons] at hp
    rcases List.mem_cons.1 hp with hp | hp
    · have : p = [] := by simpa using hp
      subst this; intro x hx; cases hx
    · exact words_free h hf p hp)]
  have := words_len e
  exact other_len (by simp; omega) (by simp; omega)
theorem bad_cut {e : Ev} {s : ByteArray} (hs : s ≠ lineS e) (h : parseEe (pcs 32 s) = 0) : ¬ sameE (parseEv (pcs 32 s)) e := fun g => by
  have := (line_parse h).2
  rw [same_iff.1 g] at this
  exact hs this.symm
theorem cut_ne {s : ByteArray} {k : Nat} (hk : k < s.size) : s.extract 0 k ≠ s := fun h => by
  have := congrArg ByteArray.size h
  rw [ByteArray.size_extract] at this
  omega
theorem line_two {e : Ev} (h : mayE e) (k : e.kind = 2) : lineS e = lineT [dl, textD e.r e.q, textV (ofF (cntF e.deps)), e.path] ∧ wordsE e = [dl, textD e.r e.q, textV (ofF (cntF e.deps)), e.path] := by
  have h1 : lineS e = lineT (wordsE e) := if_pos h
  have h2 : wordsE e = [dl, textD e.r e.q, textV (ofF (cntF e.deps)), e.path] := if_pos k
  exact ⟨by rw [h1, h2], h2⟩
theorem line_one {e : Ev} (h : mayE e) (k : ¬ e.kind = 2) : lineS e = lineT [pt, textD e.r e.q, textV (ofF (cntF e.deps)), e.path, textS e.sum, numS e.size] ∧ wordsE e = [pt, textD e.r e.q, textV (ofF (cntF e.deps)), e.path, textS e.sum, numS e.size] := by
  have h1 : lineS e = lineT (wordsE e) := if_pos h
  have h2 : wordsE e = [pt, textD e.r e.q, textV (ofF (cntF e.deps)), e.path, textS e.sum, numS e.size] := if_neg k
  exact ⟨by rw [h1, h2], h2⟩
theorem bad_two {e : Ev} (h : mayE e) (hf : Fit e) (k : e.kind = 2) : parseEe (pcs 32 (pt ++ (lineS e).extract 3 (lineS e).size)) = 2 ∧ 4 ≤ (lineS e).size := by
  obtain ⟨h1, h2⟩ := line_two h k
  have hw := words_free h hf
  rw [h2] at hw
  rw [h1]
  obtain ⟨g1, g2⟩ := line_word (w := dl) (w' := pt) (ws := [textD e.r e.q, textV (ofF (cntF e.deps)), e.path]) rfl (by simp)
  refine ⟨?_, g2⟩
  rw [g1, pcs_line (by simp) (fun p hp => by
    rw [List.map_cons] at hp
    rcases List.mem_cons.1 hp with rfl | hp
    · decide
    · exact hw p (by rw [List.map_cons]; exact List.mem_cons_of_mem _ hp))]
  unfold parseEe
  exact if_neg fun x => x.elim (fun x => absurd (show pt = dl from x.2.1) (by decide)) fun x => absurd (show (4 : Nat) = 6 from x.1) (by decide)
theorem bad_one {e : Ev} (h : mayE e) (hf : Fit e) (k : ¬ e.kind = 2) : parseEe (pcs 32 (dl ++ (lineS e).extract 3 (lineS e).size)) = 2 ∧ 4 ≤ (lineS e).size := by
  obtain ⟨h1, h2⟩ := line_one h k
  have hw := words_free h hf
  rw [h2] at hw
  rw [h1]
  obtain ⟨g1, g2⟩ := line_word (w := pt) (w' := dl) (ws := [textD e.r e.q, textV (ofF (cntF e.deps)), e.path, textS e.sum, numS e.size]) rfl (by simp)
  refine ⟨?_, g2⟩
  rw [g1, pcs_line (by simp) (fun p hp => by
    rw [List.map_cons] at hp
    rcases List.mem_cons.1 hp with rfl | hp
    · decide
    · exact hw p (by rw [List.map_cons]; exact List.mem_cons_of_mem _ hp))]
  unfold parseEe
  exact if_neg fun x => x.elim (fun x => absurd (show (6 : Nat) = 4 from x.1) (by decide)) fun x => absurd (show dl = pt from x.2.1) (by decide)

section
variable [Globs]

set_option maxHeartbeats 4000000 in
set_option maxRecDepth 10000 in
theorem bad_event (hG : NumG) (e : Ev) (at' : Int) (he : Fit e) (h0 : 0 ≤ at' ∧ at' < 256) : ACalls Tryz.prog 7 [evV e, int .u8 at'] [] (fun r h => r = .tt ∧ h = []) := by
  have ha := awake_event hG
  have h1 := line_event hG e he
  have hc := lineE_cases e
  have hsz := line_size he
  have hp := fun s hs => parse_event hG s hs
  have hfit := fun s hs => fit_parse (s := s) hs
  have b1 := fun h => bad_end (e := e) h he
  have b2 := fun h => bad_front (e := e) h he
  have b3 := fun h => bad_two (e := e) h he
  have b4 := fun h => bad_one (e := e) h he
  have b5 := fun (s : ByteArray) => bad_cut (e := e) (s := s)
  generalize lineE e = LE at *
  generalize lineS e = LS at *
  refine rcalls Tryz.func7 rfl (by decide) ?_
  refine ⟨[], _, ha, ?_⟩
  rintro r hh ⟨rfl, rfl⟩
  refine ⟨.inl rfl, ?_⟩
  refine ⟨fun c => ?_, fun c => ?_⟩
  · exact ⟨[], [], _, lehN _, .tt, rfl, rfl⟩
  refine ⟨[], _, box_free e, h1.args ⟨vbox e, trivial⟩, ?_⟩
  rintro r hh ⟨rfl, rfl⟩
  refine ⟨.inl rfl, ?_⟩
  refine ⟨fun c1 => ?_, fun c1 => ?_⟩
  · exact ⟨[], [], .tt, lehN _, leTT c1, rfl, rfl⟩
  · have hm : mayE e := by
      rcases hc with hc | hc
      · exact hc.2
      · exact absurd (by rw [hc.1]; decide) (no c1)
    obtain rfl : LE = 0 := Classical.byContradiction (no c1)
    have h4 : 4 ≤ LS.size := by
      by_cases k : e.kind = 2
      · exact (b3 hm k).2
      · exact (b4 hm k).2
    refine ⟨fun c2 => absurd (yes c2) (by omega), fun _ => ?_⟩
    obtain ⟨q0, q1, q2⟩ : 0 ≤ (IntKind.i64.wrap at').tmod (LS.size : Int) ∧ (IntKind.i64.wrap at').tmod (LS.size : Int) < LS.size ∧ ((IntKind.i64.wrap at').tmod (LS.size : Int)).toNat < LS.size := by
      rw [w64 (by omega) (by omega), Int.tmod_eq_emod_of_nonneg h0.1]
      have g1 := Int.emod_nonneg at' (b := (LS.size : Int)) (by omega)
      have g2 := Int.emod_lt_of_pos at' (b := (LS.size : Int)) (by omega)
      omega
    have b1 := b1 hm
    have b2 := b2 hm
    have hp1 := hp (LS.extract 0 ((IntKind.i64.wrap at').tmod (LS.size : Int)).toNat) (by rw [ByteArray.size_extract]; omega)
    have hf1 := hfit (LS.extract 0 ((IntKind.i64.wrap at').tmod (LS.size : Int)).toNat) (by rw [ByteArray.size_extract]; omega)
    have b5 := b5 (LS.extract 0 ((IntKind.i64.wrap at').tmod (LS.size : Int)).toNat) (cut_ne q2)
    have s1 : (⟨#[32]⟩ : ByteArray).size = 1 := rfl
    have hp2 := hp (LS ++ ⟨#[32]⟩) (by rw [ByteArray.size_append]; omega)
    have hp3 := hp ((⟨#[32]⟩ : ByteArray) ++ LS) (by rw [ByteArray.size_append]; omega)
    have hsm := same_event _ e hf1 he
    rw [b1] at hp2
    rw [b2] at hp3
    have c4 : ∀ n : Nat, (LS.extract n LS.size).size ≤ LS.size := fun n => by rw [ByteArray.size_extract]; omega
    refine ⟨by omega, ⟨q0, by omega⟩, ?_⟩
    refine ⟨[], _, hp1, ?_⟩
    rintro r hh ⟨rfl, rfl⟩
    refine ⟨.inl rfl, ?_⟩
    refine ⟨by show LS.size + 1 < _; omega, ?_⟩
    refine ⟨[], _, hp2, ?_⟩
    rintro r hh ⟨rfl, rfl⟩
    refine ⟨.inl rfl, ?_⟩
    refine ⟨by show 1 + LS.size < _; omega, ?_⟩
    refine ⟨[], _, hp3, ?_⟩
    rintro r hh ⟨rfl, rfl⟩
    refine ⟨.inl rfl, ?_⟩
    refine ⟨fun k => ?_, fun k => ?_⟩
    · have hp4 := hp (pt ++ LS.extract 3 LS.size) (by have := c4 3; have : pt.size = 3 := rfl; rw [ByteArray.size_append]; omega)
      rw [(b3 hm (yes k)).1] at hp4
      refine ⟨⟨by decide, by omega⟩, by have := c4 3; show 3 + (LS.extract 3 LS.size).size < _; omega, ?_⟩
      refine ⟨[], _, hp4, ?_⟩
      rintro r hh ⟨rfl, rfl⟩
      refine ⟨.inl rfl, ?_⟩
      refine ⟨fun d => ?_, fun d => ?_⟩
      · refine ⟨fun _ => ?_, fun g => absurd rfl (no g)⟩
        refine ⟨fun _ => ?_, fun g => absurd rfl (no g)⟩
        exact ⟨[], [], .tt, lehN _, leTT (decide_eq_true rfl), rfl, rfl⟩
      · have d := Classical.byContradiction (no d)
        have hsm := hsm.not (decide_eq_false (b5 d))
        refine ⟨[], _, box2_free _ _, box_free e, hsm.args ⟨vbox2 _ _, vbox e, trivial⟩, ?_⟩
        rintro r hh ⟨rfl, rfl⟩
        refine ⟨.inl rfl, ?_⟩
        refine ⟨fun _ => ?_, fun g => absurd rfl (no g)⟩
        refine ⟨fun _ => ?_, fun g => absurd rfl (no g)⟩
        exact ⟨[], [], .tt, lehN _, leTT (decide_eq_true rfl), rfl, rfl⟩
    · have hp4 := hp (dl ++ LS.extract 3 LS.size) (by have := c4 3; have : dl.size = 3 := rfl; rw [ByteArray.size_append]; omega)
      rw [(b4 hm (no k)).1] at hp4
      refine ⟨⟨by decide, by omega⟩, by have := c4 3; show 3 + (LS.extract 3 LS.size).size < _; omega, ?_⟩
      refine ⟨[], _, hp4, ?_⟩
      rintro r hh ⟨rfl, rfl⟩
      refine ⟨.inl rfl, ?_⟩
      refine ⟨fun d => ?_, fun d => ?_⟩
      · refine ⟨fun _ => ?_, fun g => absurd rfl (no g)⟩
        refine ⟨fun _ => ?_, fun g => absurd rfl (no g)⟩
        exact ⟨[], [], .tt, lehN _, leTT (decide_eq_true rfl), rfl, rfl⟩
      · have d := Classical.byContradiction (no d)
        have hsm := hsm.not (decide_eq_false (b5 d))
        refine ⟨[], _, box2_free _ _, box_free e, hsm.args ⟨vbox2 _ _, vbox e, trivial⟩, ?_⟩
        rintro r hh ⟨rfl, rfl⟩
        refine ⟨.inl rfl, ?_⟩
        refine ⟨fun _ => ?_, fun g => absurd rfl (no g)⟩
        refine ⟨fun _ => ?_, fun g => absurd rfl (no g)⟩
        exact ⟨[], [], .tt, lehN _, leTT (decide_eq_true rfl), rfl, rfl⟩

end
end Go.Proofs.YthckagkciefliaaGreatDoor.Ev

/-
  The contracts of the document's matrices: joined, their text, a text's matrix; and MatJoins, walked.
-/
set_option linter.unusedVariables false
set_option linter.unusedSectionVars false
namespace Go.Proofs.YthckagkciefliaaGreatDoor.Mt
open Go AL Hx Dt Spl Vc

theorem joinM_at {a b : List Vc1} {i : Nat} (h : i < max a.length b.length) : rowM (joinM a b) i = if b.length ≤ i then rowM a i else if a.length ≤ i then rowM b i else joinV (rowM a i) (rowM b i) := mapM_row h
/-- The text so far. -/
def accM (m : List Vc1) (k : Nat) : ByteArray := ba (joinC 59 (((rowsT m).map (·.data.toList)).take k))
theorem accM_zero (m : List Vc1) : accM m 0 = ByteArray.empty := rfl
theorem rows_get {m : List Vc1} {k : Nat} (h : k < m.length) : ((rowsT m).map (·.data.toList)).take (k + 1) = ((rowsT m).map (·.data.toList)).take k ++ [(textR (rowM m k)).data.toList] := by
  rw [List.take_succ_eq_append_getElem (by simpa [rowsT] using h)]
  congr 2
  simp [rowsT, row_lt h]
theorem accM_one {m : List Vc1} (h : 0 < m.length) : accM m (0 + 1) = textR (rowM m 0) := by
  unfold accM
  rw [rows_get h]
  simp [joinC, ba_data]
theorem accM_succ {m : List Vc1} {k : Nat} (hk : 0 < k) (h : k < m.length) : accM m (k + 1) = accM m k ++ ⟨#[59]⟩ ++ textR (rowM m k) := by
  unfold accM
  rw [rows_get h, join_snoc _ _ (by
    intro e
    have := congrArg List.length e
    rw [List.length_take, List.length_map, rowsT_len, List.length_nil] at this
    omega)]
  generalize textR _ = T
  rw [← ba_data T, ba_list]
  show _ = ba _ ++ ba [59] ++ _
  rw [ba_app, ba_app]
  simp
theorem accM_all (m : List Vc1) : accM m m.length = textM m := by
  unfold accM textM
  rw [List.take_of_length_le (by rw [List.length_map, rowsT_len]; exact Nat.le_refl _)]
theorem accM_size {m : List Vc1} : ∀ k, k ≤ m.length → (accM m k).size ≤ 1409 * k
  | 0, _ => by rw [accM_zero]; exact Nat.le_refl _
  | k + 1, hk => by
    have ih := accM_size (m := m) k (by omega)
    have ht : (textR (rowM m k)).size ≤ 1408 := textR_size (rowM m k)
    rcases Nat.eq_zero_or_pos k with h0 | h0
    · subst h0
      rw [accM_one (by omega)]
      omega
    · rw [accM_succ h0 (by omega), ByteArray.size_append, ByteArray.size_append]
      show (accM m k).size + 1 + _ ≤ _
      omega

section
variable [Globs]

set_option maxHeartbeats 4000000 in
set_option maxRecDepth 10000 in
theorem join_mref (a b : List Vc1) (ha : szM a) (hb : szM b) : ACalls Tryz.prog 16 [matV a, matV b] [] (fun r h => r = matV (joinM a b) ∧ h = []) := by
  have hla := ha.1
  have hlb := hb.1
  have hat := @joinM_at a b
  have hlen := joinM_len a b
  generalize joinM a b = R at *
  refine rcalls Tryz.func16 rfl (by decide) ?_
  refine ⟨Nat, fun k => [(0, matV a), (1, matV b), (5, .own 0 0 k 1), (6, int .i64 k)], fun k => [.row (k * 1) fun i => vecV (rowM R i)], fun k => k ≤ max a.length b.length, fun k => max a.length b.length - k,
    ⟨0, [0], Nat.zero_le _, lehR (Nat.le_refl _) _, ⟨.same _ trivial, .same _ trivial, .nil _ _ (by decide), leI rfl, trivial⟩⟩, ?_⟩
  intro k hk
  have hk : k ≤ max a.length b.length := hk
  have key : k < max a.length b.length → IntKind.i64.wrap ((k : Int) + 1) = ((k + 1 : Nat) : Int) := fun h => by rw [w64 (by omega) (by omega)]; omega
  have hkn : (k : Int).toNat * 1 + 0 = k := by omega
  have body : k < max a.length b.length → True := fun _ => trivial
  refine ⟨fun c => ?_, fun c => ⟨fun c' => ?_, fun c' => ?_⟩⟩
  case' refine_1 => have hlt : k < max a.length b.length := by have := yes c; omega
  case' refine_2 => have hlt : k < max a.length b.length := by have := yes c'; omega
  case' refine_3 =>
    obtain rfl : k = max a.length b.length := by have := no c; have := no c'; omega
    exact ⟨[], [], _, lehN _, giveMat rfl (by simp) (by omega) hlen.symm (fun i hi => rfl), rfl, rfl⟩
  all_goals
    have e1 := key hlt
    have hRk := hat hlt
    refine ⟨fun d1 => ?_, fun d1 => ⟨fun d2 => ?_, fun d2 => ?_⟩⟩
    · have g1 : (b.length : Int) ≤ k := yes d1
      rw [if_pos (by omega), ← hkn] at hRk
      refine ⟨⟨by omega, by omega⟩, ?_⟩
      refine ⟨rfl, fun i _ => rfl, Nat.le_refl 1, by show (k + 1) * 24 ≤ _; omega, fun i hi => ?_, fun i => vecV (rowM R i), fun i hi => rfl, fun i hi => ?_, ?_⟩
      · obtain rfl : i = 0 := by omega
        rfl
      · obtain rfl : i = 0 := by omega
        show vecV (rowM R (k * 1 + 0)) = vecV (rowM a ((k : Int).toNat * 1 + 0))
        rw [show k * 1 + 0 = (k : Int).toNat * 1 + 0 by omega, hRk]
      exact ⟨trivial, k + 1, [2], by show k + 1 ≤ max a.length b.length; omega, by show max a.length b.length - (k + 1) < max a.length b.length - k; omega, leh1 rfl (.row _ _ _ _ (Nat.le_refl _) fun i hi => .same _ trivial), ⟨.same _ trivial, .same _ trivial, leOwn rfl rfl rfl, leI e1, trivial⟩⟩
    · have g1 : ¬ (b.length : Int) ≤ k := no d1
      have g2 : (a.length : Int) ≤ k := yes d2
      rw [if_neg (by omega), if_pos (by omega), ← hkn] at hRk
      refine ⟨⟨by omega, by omega⟩, ?_⟩
      refine ⟨rfl, fun i _ => rfl, Nat.le_refl 1, by show (k + 1) * 24 ≤ _; omega, fun i hi => ?_, fun i => vecV (rowM R i), fun i hi => rfl, fun i hi => ?_, ?_⟩
      · obtain rfl : i = 0 := by omega
        rfl
      · obtain rfl : i = 0 := by omega
        show vecV (rowM R (k * 1 + 0)) = vecV (rowM b ((k : Int).toNat * 1 + 0))
        rw [show k * 1 + 0 = (k : Int).toNat * 1 + 0 by omega, hRk]
      exact ⟨trivial, k + 1, [2], by show k + 1 ≤ max a.length b.length; omega, by show max a.length b.length - (k + 1) < max a.length b.length - k; omega, leh1 rfl (.row _ _ _ _ (Nat.le_refl _) fun i hi => .same _ trivial), ⟨.same _ trivial, .same _ trivial, leOwn rfl rfl rfl, leI e1, trivial⟩⟩
    · have g1 : ¬ (b.length : Int) ≤ k := no d1
      have g2 : ¬ (a.length : Int) ≤ k := no d2
      rw [if_neg (by omega), if_neg (by omega)] at hRk
      have hj := join_ref (rowM a ((k : Int).toNat * 1 + 0)) (rowM b ((k : Int).toNat * 1 + 0)) (by rw [hkn]; have := ha.2 k (by omega); omega) (by rw [hkn]; have := hb.2 k (by omega); omega)
      rw [show ofF (maxF (cntF (rowM a ((k : Int).toNat * 1 + 0))) (cntF (rowM b ((k : Int).toNat * 1 + 0)))) = rowM R k by rw [hkn, hRk]; rfl] at hj
      refine .inr ⟨11, by decide +kernel, ?_⟩
      refine ⟨_, rfl, ?_⟩
      refine ⟨_, rfl, ?_⟩
      refine ⟨_, rfl, ?_⟩
      refine ⟨_, ⟨⟨by omega, by omega⟩, rfl⟩, ?_⟩
      refine ⟨_, rfl, ?_⟩
      refine ⟨_, rfl, ?_⟩
      refine ⟨_, rfl, ?_⟩
      refine ⟨_, ⟨⟨by omega, by omega⟩, rfl⟩, ?_⟩
      refine ⟨_, rfl, ?_⟩
      refine ⟨_, ⟨[], _, hj, by rintro r h ⟨rfl, rfl⟩; exact ⟨.inl rfl, rfl, rfl⟩⟩, ?_⟩
      refine ⟨_, ⟨⟨trivial, trivial⟩, rfl⟩, ?_⟩
      refine ⟨rfl, fun i _ => rfl, by show (k + 1) * 24 ≤ _; omega, fun i hi => ?_, fun i => vecV (rowM R i), fun i hi => rfl, fun i hi => ?_, ?_⟩
      · obtain rfl : i = 0 := by omega
        rfl
      · obtain rfl : i = 0 := by omega
        show vecV (rowM R (k * 1 + 0)) = vecV (rowM R k)
        rw [show k * 1 + 0 = k by omega]
      exact ⟨trivial, k + 1, [1], by show k + 1 ≤ max a.length b.length; omega, by show max a.length b.length - (k + 1) < max a.length b.length - k; omega, leh1 rfl (.row _ _ _ _ (Nat.le_refl _) fun i hi => .same _ trivial), ⟨.same _ trivial, .same _ trivial, leOwn rfl rfl rfl, leI e1, trivial⟩⟩

set_option maxHeartbeats 2000000 in
set_option maxRecDepth 10000 in
theorem text_mref (m : List Vc1) (hm : szM m) (h40 : m.length ≤ 4096) : ACalls Tryz.prog 18 [matV m] [] (fun r h => r = str (textM m) ∧ h = []) := by
  have hone := @accM_one m
  have hsuc := @accM_succ m
  have hall := accM_all m
  have hz := accM_zero m
  have hsz := @accM_size m
  have ht : ∀ k : Nat, k < m.length → ACalls Tryz.prog 52 [vecV (rowM m ((k : Int).toNat * 1 + 0))] [] (fun r h => r = str (textR (rowM m k)) ∧ h = []) := fun k hk => by
    rw [show (k : Int).toNat * 1 + 0 = k by omega]
    exact textv_ref (rowM m k) (by have := hm.2 k hk; omega)
  have htz : ∀ k : Nat, (textR (rowM m k)).size ≤ 1408 := fun k => textR_size _
  generalize textM m = T at *
  generalize accM m = A at *
  refine rcalls Tryz.func18 rfl (by decide) ?_
  refine ⟨Nat, fun k => [(0, matV m), (3, str (A k)), (4, int .i64 k)], fun _ => [], fun k => k ≤ m.length, fun k => m.length - k,
    ⟨0, [], Nat.zero_le _, lehN _, ⟨.same _ trivial, leS hz.symm, leI rfl, trivial⟩⟩, ?_⟩
  intro k hk
  have hk : k ≤ m.length := hk
  refine ⟨fun c => ?_, fun c => ?_⟩
  · have f1 : (k : Int) < m.length := yes c
    have e1 : IntKind.i64.wrap ((k : Int) + 1) = ((k + 1 : Nat) : Int) := by rw [w64 (by omega) (by omega)]; omega
    have hk1 := hsz k hk
    have hk2 := htz k
    have htk := ht k (by omega)
    refine ⟨fun c2 => ?_, fun c2 => ?_⟩
    · have f2 : 0 < (k : Int) := yes c2
      have hs := hsuc (k := k) (by omega) (by omega)
      generalize textR (rowM m k) = X at *
      refine ⟨by show (A k).size + 1 < _; omega, ?_⟩
      refine ⟨⟨by omega, f1⟩, ?_⟩
      refine ⟨[], _, htk, ?_⟩
      rintro r hh ⟨rfl, rfl⟩
      refine ⟨.inl rfl, ?_⟩
      refine ⟨by rw [ByteArray.size_append]; show (A k).size + 1 + _ < _; omega, ?_⟩
      exact ⟨trivial, k + 1, [], by show k + 1 ≤ m.length; omega, by show m.length - (k + 1) < m.length - k; omega, lehN _, ⟨.same _ trivial, leS hs.symm, leI e1, trivial⟩⟩
    · have f2 : ¬ 0 < (k : Int) := no c2
      obtain rfl : k = 0 := by omega
      have hs := hone (by omega)
      generalize textR (rowM m 0) = X at *
      refine ⟨⟨by omega, f1⟩, ?_⟩
      refine ⟨[], _, htk, ?_⟩
      rintro r hh ⟨rfl, rfl⟩
      refine ⟨.inl rfl, ?_⟩
      refine ⟨by omega, ?_⟩
      exact ⟨trivial, 0 + 1, [], by show 0 + 1 ≤ m.length; omega, by show m.length - (0 + 1) < m.length - 0; omega, lehN _, ⟨.same _ trivial, leS (by rw [hs, hz, ByteArray.empty_append]), leI e1, trivial⟩⟩
  · have f1 : ¬ (k : Int) < m.length := no c
    obtain rfl : k = m.length := by omega
    exact ⟨[], [], _, lehN _, leS hall, rfl, rfl⟩

set_option maxHeartbeats 2000000 in
set_option maxRecDepth 10000 in
theorem may_mref (m : List Vc1) (n : Int) (hm : szM m) : ACalls Tryz.prog 42 [matV m, int .i64 n] [] (fun r h => r = bool (decide (mayM m n)) ∧ h = []) := by
  have hlen := hm.1
  have hM : mayM m n ↔ 1 ≤ n ∧ n ≤ 32 ∧ (m.length : Int) = n ∧ ∀ i, i < m.length → mayV (rowM m i) := Iff.rfl
  obtain ⟨B, hB⟩ : ∃ B, decide (mayM m n) = B := ⟨_, rfl⟩
  rw [hB]
  refine rcalls Tryz.func42 rfl (by decide) ?_
  refine ⟨Nat, fun k => [(0, matV m), (1, int .i64 n), (5, int .i64 k)], fun _ => [], fun k => k ≤ m.length ∧ ∀ i, i < k → mayV (rowM m i), fun k => m.length - k,
    ⟨0, [], ⟨by omega, by omega⟩, lehN _, ⟨.same _ trivial, leI rfl, leI rfl, trivial⟩⟩, ?_⟩
  rintro k ⟨hk, hs⟩
  refine ⟨fun c => ?_, fun c => ?_⟩
  · have f1 : (k : Int) < m.length := yes c
    have e1 : IntKind.i64.wrap ((k : Int) + 1) = ((k + 1 : Nat) : Int) := by rw [w64 (by omega) (by omega)]; omega
    have hk1 : (k : Int).toNat * 1 + 0 = k := by omega
    have hr := may_vref (rowM m ((k : Int).toNat * 1 + 0)) (by rw [hk1]; have := hm.2 k (by omega); omega)
    have hBk : decide (rowM m ((k : Int).toNat * 1 + 0) = ofF (cntF (rowM m ((k : Int).toNat * 1 + 0)))) = decide (mayV (rowM m k)) := by rw [hk1]; rfl
    rw [hBk] at hr
    refine ⟨⟨by omega, f1⟩, ?_⟩
    refine ⟨[], _, hr, ?_⟩
    rintro r hh ⟨rfl, rfl⟩
    refine ⟨.inl rfl, ?_⟩
    refine ⟨fun c2 => ?_, fun c2 => ?_⟩
    · refine ⟨[], [], _, lehN _, leFB ?_, rfl, rfl⟩
      rw [← hB]; exact decide_eq_false fun h => notT c2 ((hM.1 h).2.2.2 k (by omega))
    · refine ⟨trivial, k + 1, [], ⟨by omega, fun i hi => ?_⟩, by show m.length - (k + 1) < m.length - k; omega, lehN _, ⟨.same _ trivial, leI rfl, leI e1, trivial⟩⟩
      rcases Nat.lt_or_ge i k with h | h
      · exact hs i h
      · rw [show i = k by omega]; exact notF c2
  · have f1 : ¬ (k : Int) < m.length := no c
    refine ⟨fun c1 => ⟨fun c2 => ?_, fun c2 => ?_⟩, fun c1 => ?_⟩
    · refine ⟨[], [], _, lehN _, leB ?_, rfl, rfl⟩
      rw [← hB]
      exact decide_eq_decide.2 ⟨fun h => hM.2 ⟨yes c2, h, yes c1, fun i hi => hs i (by omega)⟩, fun h => (hM.1 h).2.1⟩
    · refine ⟨[], [], _, lehN _, leFB ?_, rfl, rfl⟩
      rw [← hB]; exact decide_eq_false fun h => (no c2) (hM.1 h).1
    · refine ⟨[], [], _, lehN _, leFB ?_, rfl, rfl⟩
      rw [← hB]; exact decide_eq_false fun h => (no c1) (hM.1 h).2.2.1

set_option maxHeartbeats 4000000 in
set_option maxRecDepth 10000 in
theorem parse_mref (s : ByteArray) (n : Int) (hs : s.size ≤ 1099511627775) : ACalls Tryz.prog 13 [str s, int .i64 n] [] (ParseMR s n) := by
  have hl : s.data.toList.length = s.size := rfl
  obtain ⟨ps, hps⟩ : ∃ ps, pieces 59 s.data.toList = ps := ⟨_, rfl⟩
  have hpos : 0 < ps.length := by rw [← hps, pieces_len]; omega
  have hjoin : joinC 59 ps = s.data.toList := by rw [← hps, join_pieces]
  have hfree : ∀ p ∈ ps, ∀ x ∈ p, x ≠ 59 := by rw [← hps]; exact pieces_free
  have hP := okRows_at (s := s)
  have hlen := vecsOf_pcs s
  have hrow := @vecsOf_row s
  have hPl : (pcs 59 s).length = ps.length := by unfold pcs; rw [hps]; simp
  have hat : ∀ k, k < ps.length → sAt (pcs 59 s) k = bA (ps.getD k []) := fun k hk => by rw [← hps]; exact pcs_at (by rw [hps]; exact hk)
  have hcnt : ps.length ≤ s.size + 1 := by
    have := List.count_le_length (a := (59 : UInt8)) (l := s.data.toList)
    rw [← hps, pieces_len]; omega
  have hB := @mat_bad _ s n
  have hok : okMat s n ↔ okRows s ∧ mayM (vecsOf s) n := Iff.rfl
  have hgood : okMat s n → _ := @parseM_ok s n
  have hszM : szM (vecsOf s) := ⟨by rw [hlen]; omega, fun i hi => by rw [hrow (by omega)]; exact parseV_small _⟩
  have hle : ∀ k, k < ps.length → pre ps k + (ps.getD k []).length ≤ s.size := fun k hk => by
    rcases Nat.lt_or_ge (k + 1) ps.length with h | h
    · have := pre_le 59 ps (k + 1) h
      rw [hjoin, hl] at this
      have : pre ps (k + 1) = pre ps k + (ps.getD k []).length + 1 := rfl
      omega
    · have := pre_end 59 (ps := ps) (k := k) (by omega) (pre_le 59 ps k hk)
      rw [hjoin, hl] at this
      omega
  have hend : ∀ k, k + 1 = ps.length → pre ps k + (ps.getD k []).length = s.size := fun k hk => by
    have := pre_end 59 (ps := ps) (k := k) hk (pre_le 59 ps k (by omega))
    rwa [hjoin, hl] at this
  have hin : ∀ k j, k < ps.length → j < (ps.getD k []).length → ¬ (intsOf s).getD (pre ps k + j) 0 = 59 := fun k j hk hj h => by
    have h1 := hle k hk
    obtain ⟨b, e1, e2⟩ := byte_get (s := s) (i := pre ps k + j) (by omega)
    have e3 := (byte_is (c := 59) e2).1 h
    have e4 := pre_get (c := 59) hk hj
    rw [hjoin, e1, e3] at e4
    have hm : (59 : UInt8) ∈ ps.getD k [] := List.mem_of_getElem? e4.symm
    refine hfree (ps.getD k []) ?_ _ hm rfl
    rw [List.getD_eq_getElem?_getD, List.getElem?_eq_getElem hk]
    exact List.getElem_mem _
  have hout : ∀ k, k + 1 < ps.length → (intsOf s).getD (pre ps k + (ps.getD k []).length) 0 = 59 := fun k hk => by
    have h1 := pre_le 59 ps (k + 1) hk
    rw [hjoin, hl] at h1
    have h2 : pre ps (k + 1) = pre ps k + (ps.getD k []).length + 1 := rfl
    obtain ⟨b, e1, e2⟩ := byte_get (s := s) (i := pre ps k + (ps.getD k []).length) (by omega)
    have e4 := pre_sep (c := 59) hk
    rw [hjoin, e1] at e4
    cases e4
    exact e2
  have hcut : ∀ k, k < ps.length → s.extract (pre ps k) (pre ps k + (ps.getD k []).length) = sAt (pcs 59 s) k := fun k hk => by
    refine bA_ext ?_
    rw [ext_list, hat k hk, bA_list, ← hjoin]
    exact pre_piece hk
  generalize vecsOf s = D at *
  generalize pcs 59 s = P at *
  refine rcalls Tryz.func13 rfl (by decide) ?_
  refine ⟨Nat × Nat, fun x => [(0, str s), (1, int .i64 n), (6, .own 0 0 x.1 1), (7, int .i64 (pre ps x.1)), (8, int .i64 x.2)], fun x => [.row (x.1 * 1) fun i => vecV (rowM D i)],
    fun x => x.1 ≤ ps.length ∧ (x.1 < ps.length → pre ps x.1 ≤ x.2 ∧ x.2 ≤ pre ps x.1 + (ps.getD x.1 []).length) ∧ (x.1 = ps.length → x.2 = s.size + 1) ∧ ∀ j, j < x.1 → okVec (sAt P j), fun x => s.size + 1 - x.2,
    ⟨(0, 0), [0], ⟨by omega, fun _ => ⟨Nat.le_refl _, Nat.zero_le _⟩, fun h => by simp at h; omega, by simp⟩, lehR (Nat.le_refl _) _, ⟨leS rfl, leI rfl, .nil _ _ (by decide), leI rfl, leI rfl, trivial⟩⟩, ?_⟩
  rintro ⟨k, i⟩ ⟨hk, hki, hke, hj⟩
  dsimp only at hk hki hke hj ⊢
  refine ⟨fun c1 => ?_, fun c1 => ?_⟩
  · have f1 : (i : Int) ≤ s.size := yes c1
    have hkl : k < ps.length := by
      rcases Nat.lt_or_ge k ps.length with h | h
      · exact h
      · have := hke (by omega); omega
    obtain ⟨hi1, hi2⟩ := hki hkl
    have e1 : IntKind.i64.wrap ((i : Int) + 1) = ((i + 1 : Nat) : Int) := by rw [w64 (by omega) (by omega)]; omega
    have hto : ((i : Int)).toNat = i := by omega
    have hpl := hle k hkl
    have piece : i = pre ps k + (ps.getD k []).length → s.extract (pre ps k) i = sAt P k := fun h => by rw [h]; exact hcut k hkl
    refine ⟨fun c2 => ?_, fun c2 => ⟨⟨by omega, by have := no c2; omega⟩, fun c3 => ?_, fun c3 => ?_⟩⟩
    case refine_3 =>
      have g2 := no c2
      have g3 : ¬ (intsOf s).getD ((i : Int)).toNat 0 = 59 := no c3
      rw [hto] at g3
      have hlt : ¬ i = pre ps k + (ps.getD k []).length := fun h => by
        rcases Nat.lt_or_ge (k + 1) ps.length with h1 | h1
        · exact g3 (by rw [h]; exact hout k h1)
        · exact g2 (by rw [h, hend k (by omega)])
      exact ⟨trivial, (k, i + 1), [0], ⟨by omega, fun _ => ⟨by show pre ps k ≤ i + 1; omega, by show i + 1 ≤ pre ps k + (ps.getD k []).length; omega⟩, fun h => by have h : k = ps.length := h; omega, hj⟩, by show s.size + 1 - (i + 1) < s.size + 1 - i; omega, leh1 rfl (.row _ _ _ _ (Nat.le_refl _) fun i hi => .same _ trivial), ⟨leS rfl, leI rfl, leOwn rfl rfl rfl, leI rfl, leI e1, trivial⟩⟩
    all_goals
      have hlast : i = pre ps k + (ps.getD k []).length := by
        first
          | (have g2 := yes c2
             rcases Nat.lt_or_ge (k + 1) ps.length with h1 | h1
             · have := hle (k + 1) h1
               have : pre ps (k + 1) = pre ps k + (ps.getD k []).length + 1 := rfl
               omega
             · have := hend k (by omega); omega)
          | (have g3 : (intsOf s).getD ((i : Int)).toNat 0 = 59 := yes c3
             rw [hto] at g3
             rcases Nat.lt_or_ge i (pre ps k + (ps.getD k []).length) with h | h
             · refine absurd ?_ (hin k (i - pre ps k) hkl (by omega))
               rw [show pre ps k + (i - pre ps k) = i by omega]; exact g3
             · omega)
      have e2 : pre ps (k + 1) = i + 1 := by show pre ps k + (ps.getD k []).length + 1 = _; omega
      have hpi := piece hlast
      have hr := hrow (k := k) (by omega)
      rw [← hpi] at hr
      have hsz : (s.extract (pre ps k) i).size ≤ s.size := by rw [ByteArray.size_extract]; omega
      have hp := parse_vref (s.extract (pre ps k) i) (by omega)
      have hpo := @parseV_ok (s.extract (pre ps k) i)
      have hpb := @parseV_bad (s.extract (pre ps k) i)
      have hPk := fun h => hP.1 h k (by omega)
      rw [← hpi] at hPk
      unfold ParseVR at hp
      have hokk : parseVE (s.extract (pre ps k) i) = 0 → okVec (sAt P k) := fun h0 => Classical.byContradiction fun h => by
        rw [← hpi] at h
        have := (hpb h).1
        rw [h0] at this; cases this
      rw [← hr] at hp
      generalize parseVE (s.extract (pre ps k) i) = E at *
      refine ⟨⟨by omega, f1⟩, ⟨by omega, by omega⟩, ?_⟩
      refine ⟨[], _, hp, ?_⟩
      rintro r hh ⟨rfl, rfl⟩
      refine ⟨.inl rfl, ?_⟩
      refine ⟨fun c4 => ?_, fun c4 => ?_⟩
      · have g4 : ¬ E = 0 := yes c4
        exact hB (fun h => g4 (hpo (hPk (hok.1 h).1)).1) _
      · have g4 : E = 0 := Classical.not_not.1 (no c4)
        refine ⟨rfl, fun i _ => rfl, Nat.le_refl 1, by show (k + 1) * 24 ≤ _; omega, fun i hi => ?_, fun i => vecV (rowM D i), fun i hi => rfl, fun i hi => ?_, ?_⟩
        · obtain rfl : i = 0 := by omega
          rfl
        · obtain rfl : i = 0 := by omega
          show vecV (rowM D (k * 1 + 0)) = vecV (rowM D k)
          rw [show k * 1 + 0 = k by omega]
        refine ⟨trivial, (k + 1, i + 1), [2], ⟨by show k + 1 ≤ _; omega, fun h => ⟨by show pre ps (k + 1) ≤ i + 1; omega, by show i + 1 ≤ pre ps (k + 1) + _; omega⟩, fun h => ?_, fun j hj' => ?_⟩, by show s.size + 1 - (i + 1) < s.size + 1 - i; omega, leh1 rfl (.row _ _ _ _ (Nat.le_refl _) fun i hi => .same _ trivial), ⟨leS rfl, leI rfl, leOwn rfl rfl rfl, leI ?_, leI e1, trivial⟩⟩
        · have h : k + 1 = ps.length := h
          have := hend k h
          show i + 1 = s.size + 1
          omega
        · have hj' : j < k + 1 := hj'
          rcases Nat.lt_or_ge j k with h | h
          · exact hj j h
          · rw [show j = k by omega]; exact hokk g4
        · show IntKind.i64.wrap ((i : Int) + 1) = ((pre ps (k + 1) : Nat) : Int)
          rw [e1, e2]
  · have f1 : ¬ (i : Int) ≤ s.size := no c1
    have hkl : k = ps.length := by
      rcases Nat.lt_or_ge k ps.length with h | h
      · have := (hki h).2; have := hle k h; omega
      · omega
    subst hkl
    have hv := hP.2 fun j hj' => hj j (by omega)
    have hx := may_mref D n hszM
    refine ⟨[], _, by omega, fun i hi => trivial, hx.args ⟨vmat (by omega) fun i hi => by rw [Nat.zero_add], .refl _, trivial⟩, ?_⟩
    rintro r hh ⟨rfl, rfl⟩
    refine ⟨.inr ⟨trivial, fun o ho => by cases ho⟩, ?_⟩
    refine ⟨fun c2 => ?_, fun c2 => ?_⟩
    · exact hB (fun h => notT c2 (hok.1 h).2) _
    · obtain ⟨o1, o2⟩ := hgood (hok.2 ⟨hv, notF c2⟩)
      exact ⟨[], [], _, lehN _, le_pair (a := matV (parseML s n)) (b := int .i64 (parseME s n)) (giveMat rfl (by simp) (by rw [o2]; omega) (by rw [o2]; omega) (fun i hi => by rw [o2])) (leI o1.symm), rfl, rfl⟩

theorem parseM_sz (s : ByteArray) (n : Int) : szM (parseML s n) := by
  by_cases h : okMat s n
  · rw [(parseM_ok h).2]
    have := h.2.2.1
    have := h.2.2.2.1
    refine ⟨by omega, fun i hi => ?_⟩
    rw [h.2.2.2.2 i hi]; have := ofK_len (cntF (rowM (vecsOf s) i)) 32; show (ofK _ 32).length ≤ _; omega
  · rw [(parseM_bad h).2]
    exact ⟨by simp, fun i hi => by simp at hi⟩

set_option maxHeartbeats 4000000 in
set_option maxRecDepth 10000 in
theorem joins_mat (hG : NumG) (a b : List Vc1) (s : ByteArray) (ha : a.length ≤ 9223372036854775807) (hb : b.length ≤ 9223372036854775807) (hs : s.size ≤ 1099511627775) :
    ACalls Tryz.prog 3 [matV a, matV b, str s] [] (fun r h => r = .tt ∧ h = []) := by
  have s1 := small_prog a ha
  have s2 := small_prog b hb
  obtain ⟨A, hA⟩ : ∃ A, decide (smallP a) = A := ⟨_, rfl⟩
  obtain ⟨B, hB⟩ : ∃ B, decide (smallP b) = B := ⟨_, rfl⟩
  rw [hA] at s1
  rw [hB] at s2
  have p1 := parse_mat hG s a.length hs
  have p2 := parse_mref s a.length hs
  unfold ParseMR at p1 p2
  have pe := (same_mat _ _ (parseM_sz s a.length) (parseM_sz s a.length)).yes (decide_eq_true rfl)
  generalize parseML s a.length = PL at *
  generalize parseME s a.length = PE at *
  refine rcalls Tryz.func3 rfl (by decide) ?_
  refine ⟨[], _, awake_mat hG, ?_⟩
  rintro r hh ⟨rfl, rfl⟩
  refine ⟨.inl rfl, ?_⟩
  refine ⟨[], _, s1, ?_⟩
  rintro r hh ⟨rfl, rfl⟩
  refine ⟨.inl rfl, ?_⟩
  refine ⟨fun _ => ?_, fun c1 => ?_⟩
  · exact ⟨[], [], .tt, lehN _, .tt, rfl, rfl⟩
  refine ⟨[], _, s2, ?_⟩
  rintro r hh ⟨rfl, rfl⟩
  refine ⟨.inl rfl, ?_⟩
  refine ⟨fun _ => ?_, fun c2 => ?_⟩
  · exact ⟨[], [], .tt, lehN _, .tt, rfl, rfl⟩
  have sa : smallP a := of_decide_eq_true (hA.trans (unnot c1))
  have za := small_sz sa
  have zb := small_sz (of_decide_eq_true (hB.trans (unnot c2)) : smallP b)
  have h40 := sa.1
  have j1 := join_mat a b za zb
  have j2 := join_mref a b za zb
  have je := (same_mat _ _ (szM_join za zb) (szM_join za zb)).yes (decide_eq_true rfl)
  have t1 := text_mat hG a za (by omega)
  have t2 := text_mref a za (by omega)
  generalize joinM a b = J at *
  generalize textM a = T at *
  refine ⟨[], _, p1, ?_⟩
  rintro r hh ⟨rfl, rfl⟩
  refine ⟨.inl rfl, ?_⟩
  refine ⟨[], _, p2, ?_⟩
  rintro r hh ⟨rfl, rfl⟩
  refine ⟨.inl rfl, ?_⟩
  refine ⟨[], _, j1, ?_⟩
  rintro r hh ⟨rfl, rfl⟩
  refine ⟨.inl rfl, ?_⟩
  refine ⟨[], _, j2, ?_⟩
  rintro r hh ⟨rfl, rfl⟩
  refine ⟨.inl rfl, ?_⟩
  refine ⟨[], _, je, ?_⟩
  rintro r hh ⟨rfl, rfl⟩
  refine ⟨.inl rfl, ?_⟩
  refine ⟨[], _, t1, ?_⟩
  rintro r hh ⟨rfl, rfl⟩
  refine ⟨.inl rfl, ?_⟩
  refine ⟨[], _, t2, ?_⟩
  rintro r hh ⟨rfl, rfl⟩
  refine ⟨.inl rfl, ?_⟩
  refine ⟨fun _ => ?_, fun e => absurd rfl (no e)⟩
  refine ⟨[], _, pe, ?_⟩
  rintro r hh ⟨rfl, rfl⟩
  refine ⟨.inl rfl, ?_⟩
  exact ⟨[], [], .tt, lehN _, leTT (decide_eq_true rfl), rfl, rfl⟩

end
end Go.Proofs.YthckagkciefliaaGreatDoor.Mt

/-
  Events: the document's words and Parse; what EventLines says.
-/
set_option linter.unusedVariables false
set_option linter.unusedSectionVars false
namespace Go.Proofs.YthckagkciefliaaGreatDoor.Ev
open Go AL Spl Hx Dt Vc Pa

abbrev All38 (p : Nat → Prop) : Prop := p 0 ∧ p 1 ∧ p 2 ∧ p 3 ∧ p 4 ∧ p 5 ∧ p 6 ∧ p 7 ∧ p 8 ∧ p 9 ∧ p 10 ∧ p 11 ∧ p 12 ∧ p 13 ∧ p 14 ∧ p 15 ∧ p 16 ∧ p 17 ∧ p 18 ∧ p 19 ∧ p 20 ∧ p 21 ∧ p 22 ∧ p 23 ∧ p 24 ∧ p 25 ∧ p 26 ∧ p 27 ∧ p 28 ∧ p 29 ∧ p 30 ∧ p 31 ∧ p 32 ∧ p 33 ∧ p 34 ∧ p 35 ∧ p 36 ∧ p 37
theorem all38 {p : Nat → Prop} (h : All38 p) : ∀ i, i < 38 → p i := by
  obtain ⟨h0, h1, h2, h3, h4, h5, h6, h7, h8, h9, h10, h11, h12, h13, h14, h15, h16, h17, h18, h19, h20, h21, h22, h23, h24, h25, h26, h27, h28, h29, h30, h31, h32, h33, h34, h35, h36, h37⟩ := h
  intro i hi
  match i, hi with
  | 0, _ => exact h0
  | 1, _ => exact h1
  | 2, _ => exact h2
  | 3, _ => exact h3
  | 4, _ => exact h4
  | 5, _ => exact h5
  | 6, _ => exact h6
  | 7, _ => exact h7
  | 8, _ => exact h8
  | 9, _ => exact h9
  | 10, _ => exact h10
  | 11, _ => exact h11
  | 12, _ => exact h12
  | 13, _ => exact h13
  | 14, _ => exact h14
  | 15, _ => exact h15
  | 16, _ => exact h16
  | 17, _ => exact h17
  | 18, _ => exact h18
  | 19, _ => exact h19
  | 20, _ => exact h20
  | 21, _ => exact h21
  | 22, _ => exact h22
  | 23, _ => exact h23
  | 24, _ => exact h24
  | 25, _ => exact h25
  | 26, _ => exact h26
  | 27, _ => exact h27
  | 28, _ => exact h28
  | 29, _ => exact h29
  | 30, _ => exact h30
  | 31, _ => exact h31
  | 32, _ => exact h32
  | 33, _ => exact h33
  | 34, _ => exact h34
  | 35, _ => exact h35
  | 36, _ => exact h36
  | 37, _ => exact h37
  | k + 38, h => exact absurd h (by omega)
theorem ref_yes {s : ByteArray} {e : Ev} (hf : Fit e) (h0 : lineE e = 0) (h : lineS e = s) : parseEv (pcs 32 s) = e ∧ parseEe (pcs 32 s) = 0 := by
  have hm : mayE e := by
    rcases lineE_cases e with h1 | h1
    · exact h1.2
    · have := h1.1; omega
  rw [← h]
  exact parse_line hm hf
theorem ref_no {s : ByteArray} {e : Ev} (he : (pcs 32 s).length = 4 ∧ e = abE 2 (pcs 32 s) ∨ (pcs 32 s).length = 6 ∧ e = putE (pcs 32 s)) (h : ¬ (lineE e = 0 ∧ lineS e = s)) : parseEv (pcs 32 s) = noneE ∧ parseEe (pcs 32 s) = 2 := by
  have hb : parseEe (pcs 32 s) ≠ 0 := fun h0 => h (by
    have hs := line_of_pcs s
    have hb : okDel (pcs 32 s) ∨ okPut (pcs 32 s) := Classical.byContradiction fun hn => by unfold parseEe at h0; rw [if_neg hn] at h0; omega
    have fin : ∀ {e : Ev}, mayE e → wordsE e = pcs 32 s → lineE e = 0 ∧ lineS e = s := fun {e} hm hw => ⟨if_pos hm, by unfold lineS; rw [if_pos hm, hw, hs]⟩
    rcases hb with hb | hb
    · rcases he with ⟨h4, rfl⟩ | ⟨h6, rfl⟩
      · exact fin hb.2.2.2 (del_words hb)
      · have := hb.1; omega
    · rcases he with ⟨h4, rfl⟩ | ⟨h6, rfl⟩
      · have := hb.1; omega
      · exact fin hb.2.2.2 (put_words hb))
  have := parse_none hb
  exact ⟨this.2.1, this.1⟩

section
variable [Globs]

set_option maxHeartbeats 4000000 in
set_option maxRecDepth 10000 in
theorem words_ref (s : ByteArray) (hs : s.size ≤ 1099511627775) : ACalls Tryz.prog 63 [str s] [] (fun r h => r = textsV (pcs 32 s) ∧ h = []) := by
  have hl : s.data.toList.length = s.size := rfl
  obtain ⟨ps, hps⟩ : ∃ ps, pieces 32 s.data.toList = ps := ⟨_, rfl⟩
  have hpos : 0 < ps.length := by rw [← hps, pieces_len]; omega
  have hjoin : joinC 32 ps = s.data.toList := by rw [← hps, join_pieces]
  have hfree : ∀ p ∈ ps, ∀ x ∈ p, x ≠ 32 := by rw [← hps]; exact pieces_free
  have hPl : (pcs 32 s).length = ps.length := by unfold pcs; rw [hps]; simp
  have hat : ∀ k, k < ps.length → sAt (pcs 32 s) k = bA (ps.getD k []) := fun k hk => by rw [← hps]; exact pcs_at (by rw [hps]; exact hk)
  have hcnt : ps.length ≤ s.size + 1 := by
    have := List.count_le_length (a := (32 : UInt8)) (l := s.data.toList)
    rw [← hps, pieces_len]; omega
  have hle : ∀ k, k < ps.length → pre ps k + (ps.getD k []).length ≤ s.size := fun k hk => by
    rcases Nat.lt_or_ge (k + 1) ps.length with h | h
    · have := pre_le 32 ps (k + 1) h
      rw [hjoin, hl] at this
      have : pre ps (k + 1) = pre ps k + (ps.getD k []).length + 1 := rfl
      omega
    · have := pre_end 32 (ps := ps) (k := k) (by omega) (pre_le 32 ps k hk)
      rw [hjoin, hl] at this
      omega
  have hend : ∀ k, k + 1 = ps.length → pre ps k + (ps.getD k []).length = s.size := fun k hk => by
    have := pre_end 32 (ps := ps) (k := k) hk (pre_le 32 ps k (by omega))
    rwa [hjoin, hl] at this
  have hin : ∀ k j, k < ps.length → j < (ps.getD k []).length → ¬ (intsOf s).getD (pre ps k + j) 0 = 32 := fun k j hk hj h => by
    have h1 := hle k hk
    obtain ⟨b, e1, e2⟩ := Pa.byte_get (s := s) (i := pre ps k + j) (by omega)
    have e3 := (Pa.byte_is (c := 32) e2).1 h
    have e4 := pre_get (c := 32) hk hj
    rw [hjoin, e1, e3] at e4
    have hm : (32 : UInt8) ∈ ps.getD k [] := List.mem_of_getElem? e4.symm
    refine hfree (ps.getD k []) ?_ _ hm rfl
    rw [List.getD_eq_getElem?_getD, List.getElem?_eq_getElem hk]
    exact List.getElem_mem _
  have hout : ∀ k, k + 1 < ps.length → (intsOf s).getD (pre ps k + (ps.getD k []).length) 0 = 32 := fun k hk => by
    have h1 := pre_le 32 ps (k + 1) hk
    rw [hjoin, hl] at h1
    have h2 : pre ps (k + 1) = pre ps k + (ps.getD k []).length + 1 := rfl
    obtain ⟨b, e1, e2⟩ := Pa.byte_get (s := s) (i := pre ps k + (ps.getD k []).length) (by omega)
    have e4 := pre_sep (c := 32) hk
    rw [hjoin, e1] at e4
    cases e4
    exact e2
  have hcut : ∀ k, k < ps.length → s.extract (pre ps k) (pre ps k + (ps.getD k []).length) = sAt (pcs 32 s) k := fun k hk => by
    refine bA_ext ?_
    rw [ext_list, hat k hk, bA_list, ← hjoin]
    exact pre_piece hk
  generalize pcs 32 s = P at *
  refine rcalls Tryz.func63 rfl (by decide) ?_
  refine ⟨Nat × Nat, fun x => [(0, str s), (3, .own 0 0 x.1 1), (4, int .i64 (pre ps x.1)), (5, int .i64 x.2)], fun x => [.row (x.1 * 1) fun i => str (sAt P i)],
    fun x => x.1 ≤ ps.length ∧ (x.1 < ps.length → pre ps x.1 ≤ x.2 ∧ x.2 ≤ pre ps x.1 + (ps.getD x.1 []).length) ∧ (x.1 = ps.length → x.2 = s.size + 1), fun x => s.size + 1 - x.2,
    ⟨(0, 0), [0], ⟨by omega, fun _ => ⟨Nat.le_refl _, Nat.zero_le _⟩, fun h => by simp at h; omega⟩, lehR (Nat.le_refl _) _, ⟨leS rfl, .nil _ _ (by decide), leI rfl, leI rfl, trivial⟩⟩, ?_⟩
  rintro ⟨k, i⟩ ⟨hk, hki, hke⟩
  dsimp only at hk hki hke ⊢
  refine ⟨fun c1 => ?_, fun c1 => ?_⟩
  · have f1 : (i : Int) ≤ s.size := yes c1
    have hkl : k < ps.length := by
      rcases Nat.lt_or_ge k ps.length with h | h
      · exact h
      · have := hke (by omega); omega
    obtain ⟨hi1, hi2⟩ := hki hkl
    have e1 : IntKind.i64.wrap ((i : Int) + 1) = ((i + 1 : Nat) : Int) := by rw [w64 (by omega) (by omega)]; omega
    have hto : ((i : Int)).toNat = i := by omega
    have hpl := hle k hkl
    have piece : i = pre ps k + (ps.getD k []).length → s.extract (pre ps k) i = sAt P k := fun h => by rw [h]; exact hcut k hkl
    refine ⟨fun c2 => ?_, fun c2 => ⟨⟨by omega, by have := no c2; omega⟩, fun c3 => ?_, fun c3 => ?_⟩⟩
    case refine_3 =>
      have g2 := no c2
      have g3 : ¬ (intsOf s).getD ((i : Int)).toNat 0 = 32 := no c3
      rw [hto] at g3
      have hlt : ¬ i = pre ps k + (ps.getD k []).length := fun h => by
        rcases Nat.lt_or_ge (k + 1) ps.length with h1 | h1
        · exact g3 (by rw [h]; exact hout k h1)
        · exact g2 (by rw [h, hend k (by omega)])
      exact ⟨trivial, (k, i + 1), [0], ⟨by omega, fun _ => ⟨by show pre ps k ≤ i + 1; omega, by show i + 1 ≤ pre ps k + (ps.getD k []).length; omega⟩, fun h => by have h : k = ps.length := h; omega⟩, by show s.size + 1 - (i + 1) < s.size + 1 - i; omega, leh1 rfl (.row _ _ _ _ (Nat.le_refl _) fun i hi => .raw _), ⟨leS rfl, leOwn rfl rfl rfl, leI rfl, leI e1, trivial⟩⟩
    all_goals
      have hlast : i = pre ps k + (ps.getD k []).length := by
        first
          | (have g2 := yes c2
             rcases Nat.lt_or_ge (k + 1) ps.length with h1 | h1
             · have := hle (k + 1) h1
               have : pre ps (k + 1) = pre ps k + (ps.getD k []).length + 1 := rfl
               omega
             · have := hend k (by omega); omega)
          | (have g3 : (intsOf s).getD ((i : Int)).toNat 0 = 32 := yes c3
             rw [hto] at g3
             rcases Nat.lt_or_ge i (pre ps k + (ps.getD k []).length) with h | h
             · refine absurd ?_ (hin k (i - pre ps k) hkl (by omega))
               rw [show pre ps k + (i - pre ps k) = i by omega]; exact g3
             · omega)
      have e2 : pre ps (k + 1) = i + 1 := by show pre ps k + (ps.getD k []).length + 1 = _; omega
      have hpi := piece hlast
      refine ⟨⟨by omega, f1⟩, ⟨by omega, by omega⟩, ?_⟩
      refine ⟨rfl, fun i _ => rfl, Nat.le_refl 1, by show (k + 1) * 16 ≤ _; omega, fun i hi => ?_, fun i => str (sAt P i), fun i hi => rfl, fun i hi => ?_, ?_⟩
      · obtain rfl : i = 0 := by omega
        rfl
      · obtain rfl : i = 0 := by omega
        show str (sAt P (k * 1 + 0)) = str (s.extract (pre ps k) i)
        rw [show k * 1 + 0 = k by omega]
        exact congrArg (fun x => str x) hpi.symm
      refine ⟨trivial, (k + 1, i + 1), [2], ⟨by show k + 1 ≤ _; omega, fun h => ⟨by show pre ps (k + 1) ≤ i + 1; omega, by show i + 1 ≤ pre ps (k + 1) + _; omega⟩, fun h => ?_⟩, by show s.size + 1 - (i + 1) < s.size + 1 - i; omega, leh1 rfl (.row _ _ _ _ (Nat.le_refl _) fun i hi => .raw _), ⟨leS rfl, leOwn rfl rfl rfl, leI ?_, leI e1, trivial⟩⟩
      · have h : k + 1 = ps.length := h
        have := hend k h
        show i + 1 = s.size + 1
        omega
      · show IntKind.i64.wrap ((i : Int) + 1) = ((pre ps (k + 1) : Nat) : Int)
        rw [e1, e2]
  · have f1 : ¬ (i : Int) ≤ s.size := no c1
    have hkl : k = ps.length := by
      rcases Nat.lt_or_ge k ps.length with h | h
      · have := hki h; have := hle k h; omega
      · omega
    subst hkl
    exact ⟨[], [], _, lehN _, giveTexts rfl (by decide) rfl hPl.symm (by omega) (fun i hi => rfl), rfl, rfl⟩

set_option maxHeartbeats 4000000 in
set_option maxRecDepth 10000 in
theorem parse_eref (s : ByteArray) (hs : s.size ≤ 281474976710) : ACalls Tryz.prog 23 [str s] [] (fun r h => r = .tup 2 (pair (evV (parseEv (pcs 32 s))) (int .i64 (parseEe (pcs 32 s)))) ∧ h = []) := by
  have hw := words_ref s (by omega)
  have hr4 := fun h g => ref_no (s := s) (e := abE 2 (pcs 32 s)) (.inl ⟨h, rfl⟩) g
  have hr6 := fun h g => ref_no (s := s) (e := putE (pcs 32 s)) (.inr ⟨h, rfl⟩) g
  have hy := fun (e : Ev) (hf : Fit e) => ref_yes (s := s) (e := e) hf
  have hbad : (pcs 32 s).length ≠ 4 → (pcs 32 s).length ≠ 6 → parseEv (pcs 32 s) = noneE ∧ parseEe (pcs 32 s) = 2 := fun h4 h6 => by
    have := parse_none (ps := pcs 32 s) (by rw [other_len h4 h6]; decide)
    exact ⟨this.2.1, this.1⟩
  obtain ⟨hl, hz⟩ : (pcs 32 s).length ≤ 1099511627777 ∧ ∀ k, (sAt (pcs 32 s) k).size ≤ 281474976710 := ⟨by have := pcs_len 32 s; omega, fun k => Nat.le_trans (pcs_size 32 s k) hs⟩
  generalize pcs 32 s = ps at *
  have fit2 := fit_ab 2 ps (fun k => by have := hz k; omega)
  obtain ⟨h32, hb32⟩ := parseD_ok (intsOf (sAt ps 4))
  have fit1 := fit_put ps (fun k => by have := hz k; omega) h32 hb32
  have hd := Dt.parse_ref (sAt ps 1) (by have := hz 1; omega)
  have hv := parse_vref (sAt ps 2) (by have := hz 2; omega)
  have hx := Hx.parse_ref (sAt ps 4) (by have := hz 4; omega)
  have hn := read_ref (sAt ps 5) 65536 (by have := hz 5; omega)
  have hl2 := line_eref (abE 2 ps) fit2
  have hl1 := line_eref (putE ps) fit1
  have y2 := hy _ fit2
  have y1 := hy _ fit1
  unfold Dt.ParseR at hd
  unfold ParseVR at hv
  unfold Hx.ParseR at hx
  unfold ReadR at hn
  generalize parseEv ps = EV at *
  generalize parseEe ps = EE at *
  generalize lineS (abE 2 ps) = S2 at *
  generalize lineE (abE 2 ps) = E2 at *
  generalize lineS (putE ps) = S1 at *
  generalize lineE (putE ps) = E1 at *
  refine rcalls Tryz.func23 rfl (by decide) ?_
  refine ⟨[], _, hw, ?_⟩
  rintro r hh ⟨rfl, rfl⟩
  refine ⟨.inl rfl, ?_⟩
  refine ⟨fun c1 => ⟨fun c2 => ?_, fun c2 => ?_⟩, fun c1 => ?_⟩
  · obtain ⟨rfl, rfl⟩ := hbad (by have := yes c1; omega) (by have := yes c2; omega)
    exact ⟨[], [], _, lehN _, le_pair (a := evV noneE) (.agg _ _ _ (all38 ⟨leI rfl, leI rfl, .nilR _ _, leI rfl, leS rfl, leI rfl, leI rfl, leI rfl, leI rfl, leI rfl, leI rfl, leI rfl, leI rfl, leI rfl, leI rfl, leI rfl, leI rfl, leI rfl, leI rfl, leI rfl, leI rfl, leI rfl, leI rfl, leI rfl, leI rfl, leI rfl, leI rfl, leI rfl, leI rfl, leI rfl, leI rfl, leI rfl, leI rfl, leI rfl, leI rfl, leI rfl, leI rfl, leI rfl⟩)) (leI rfl), rfl, rfl⟩
  · have c1 : ¬ (ps.length : Int) = 4 := yes c1
    have c2 : (ps.length : Int) = 6 := Classical.byContradiction fun h => no c2 h
    refine ⟨⟨by omega, by show (1 : Int) < ps.length; omega⟩, ?_⟩
    refine ⟨[], _, hd, ?_⟩
    rintro r hh ⟨rfl, rfl⟩
    refine ⟨.inl rfl, ?_⟩
    refine ⟨⟨by omega, by show (2 : Int) < ps.length; omega⟩, ?_⟩
    refine ⟨[], _, hv, ?_⟩
    rintro r hh ⟨rfl, rfl⟩
    refine ⟨.inl rfl, ?_⟩
    refine .inr ⟨7, by decide +kernel, ?_⟩
    refine ⟨_, rfl, ?_⟩
    refine ⟨_, rfl, ?_⟩
    refine ⟨_, rfl, ?_⟩
    refine ⟨_, ⟨⟨by omega, by show (3 : Int) < ps.length; omega⟩, rfl⟩, ?_⟩
    refine ⟨_, rfl, ?_⟩
    refine ⟨_, rfl, ?_⟩
    refine ⟨_, _, ⟨rfl, rfl⟩, ?_⟩
    refine ⟨fun _ => ?_, fun g => absurd c2 (no g)⟩
    refine ⟨⟨by omega, by show (4 : Int) < ps.length; omega⟩, ?_⟩
    refine ⟨[], _, hx, ?_⟩
    rintro r hh ⟨rfl, rfl⟩
    refine ⟨.inl rfl, ?_⟩
    refine ⟨rfl, ?_⟩
    refine ⟨h32.symm, by decide, ?_⟩
    refine ⟨⟨by omega, by show (5 : Int) < ps.length; omega⟩, ?_⟩
    refine ⟨[], _, hn, ?_⟩
    rintro r hh ⟨rfl, rfl⟩
    refine ⟨.inl rfl, ?_⟩
    have hlen : ((List.replicate 32 (0 : Int)).take 0 ++ Hx.parseD (intsOf (sAt ps 4)) ++ (List.replicate 32 (0 : Int)).drop (0 + (Hx.parseD (intsOf (sAt ps 4))).length)).length = 32 := by simp [h32]
    refine ⟨by rw [hlen]; decide, ?_⟩
    refine ⟨by rw [List.drop_zero, List.take_of_length_le (Nat.le_of_eq hlen), hlen], ?_⟩
    have hX : ((((List.replicate 32 (0 : Int)).take 0 ++ Hx.parseD (intsOf (sAt ps 4)) ++ (List.replicate 32 (0 : Int)).drop (0 + (Hx.parseD (intsOf (sAt ps 4))).length)).drop 0).take 32) = Hx.parseD (intsOf (sAt ps 4)) := by
      rw [List.drop_zero, List.take_of_length_le (Nat.le_of_eq hlen)]; simp [h32]
    refine ⟨[], _, all38 ⟨trivial, trivial, trivial, trivial, trivial, trivial, trivial, trivial, trivial, trivial, trivial, trivial, trivial, trivial, trivial, trivial, trivial, trivial, trivial, trivial, trivial, trivial, trivial, trivial, trivial, trivial, trivial, trivial, trivial, trivial, trivial, trivial, trivial, trivial, trivial, trivial, trivial, trivial⟩, hl1.args ⟨vagg (all38 ⟨.refl _, .refl _, .refl _, .refl _, .refl _, vint (congrArg (fun l : List Int => l.getD 0 0) hX), vint (congrArg (fun l : List Int => l.getD 1 0) hX), vint (congrArg (fun l : List Int => l.getD 2 0) hX), vint (congrArg (fun l : List Int => l.getD 3 0) hX), vint (congrArg (fun l : List Int => l.getD 4 0) hX), vint (congrArg (fun l : List Int => l.getD 5 0) hX), vint (congrArg (fun l : List Int => l.getD 6 0) hX), vint (congrArg (fun l : List Int => l.getD 7 0) hX), vint (congrArg (fun l : List Int => l.getD 8 0) hX), vint (congrArg (fun l : List Int => l.getD 9 0) hX), vint (congrArg (fun l : List Int => l.getD 10 0) hX), vint (congrArg (fun l : List Int => l.getD 11 0) hX), vint (congrArg (fun l : List Int => l.getD 12 0) hX), vint (congrArg (fun l : List Int => l.getD 13 0) hX), vint (congrArg (fun l : List Int => l.getD 14 0) hX), vint (congrArg (fun l : List Int => l.getD 15 0) hX), vint (congrArg (fun l : List Int => l.getD 16 0) hX), vint (congrArg (fun l : List Int => l.getD 17 0) hX), vint (congrArg (fun l : List Int => l.getD 18 0) hX), vint (congrArg (fun l : List Int => l.getD 19 0) hX), vint (congrArg (fun l : List Int => l.getD 20 0) hX), vint (congrArg (fun l : List Int => l.getD 21 0) hX), vint (congrArg (fun l : List Int => l.getD 22 0) hX), vint (congrArg (fun l : List Int => l.getD 23 0) hX), vint (congrArg (fun l : List Int => l.getD 24 0) hX), vint (congrArg (fun l : List Int => l.getD 25 0) hX), vint (congrArg (fun l : List Int => l.getD 26 0) hX), vint (congrArg (fun l : List Int => l.getD 27 0) hX), vint (congrArg (fun l : List Int => l.getD 28 0) hX), vint (congrArg (fun l : List Int => l.getD 29 0) hX), vint (congrArg (fun l : List Int => l.getD 30 0) hX), vint (congrArg (fun l : List Int => l.getD 31 0) hX), .refl _⟩), trivial⟩, ?_⟩
    rintro r hh ⟨rfl, rfl⟩
    refine ⟨.inl rfl, ?_⟩
    have hr := hr6
    have hy := y1
    refine ⟨fun g1 => ?_, fun g1 => ⟨fun g2 => ?_, fun g2 => ?_⟩⟩
    · obtain ⟨rfl, rfl⟩ := hr (by omega) fun h => yes g1 h.1
      exact ⟨[], [], _, lehN _, le_pair (a := evV noneE) (.agg _ _ _ (all38 ⟨leI rfl, leI rfl, .nilR _ _, leI rfl, leS rfl, leI rfl, leI rfl, leI rfl, leI rfl, leI rfl, leI rfl, leI rfl, leI rfl, leI rfl, leI rfl, leI rfl, leI rfl, leI rfl, leI rfl, leI rfl, leI rfl, leI rfl, leI rfl, leI rfl, leI rfl, leI rfl, leI rfl, leI rfl, leI rfl, leI rfl, leI rfl, leI rfl, leI rfl, leI rfl, leI rfl, leI rfl, leI rfl, leI rfl⟩)) (leI rfl), rfl, rfl⟩
    · obtain ⟨rfl, rfl⟩ := hr (by omega) fun h => yes g2 h.2
      exact ⟨[], [], _, lehN _, le_pair (a := evV noneE) (.agg _ _ _ (all38 ⟨leI rfl, leI rfl, .nilR _ _, leI rfl, leS rfl, leI rfl, leI rfl, leI rfl, leI rfl, leI rfl, leI rfl, leI rfl, leI rfl, leI rfl, leI rfl, leI rfl, leI rfl, leI rfl, leI rfl, leI rfl, leI rfl, leI rfl, leI rfl, leI rfl, leI rfl, leI rfl, leI rfl, leI rfl, leI rfl, leI rfl, leI rfl, leI rfl, leI rfl, leI rfl, leI rfl, leI rfl, leI rfl, leI rfl⟩)) (leI rfl), rfl, rfl⟩
    · obtain ⟨rfl, rfl⟩ := hy (Classical.byContradiction (no g1)) (Classical.byContradiction (no g2))
      exact ⟨[], [], _, lehN _, le_pair (a := evV (putE ps)) (.agg _ _ _ (all38 ⟨leI rfl, leI rfl, .same _ trivial, leI rfl, leS rfl, leI (congrArg (fun l : List Int => l.getD 0 0) hX), leI (congrArg (fun l : List Int => l.getD 1 0) hX), leI (congrArg (fun l : List Int => l.getD 2 0) hX), leI (congrArg (fun l : List Int => l.getD 3 0) hX), leI (congrArg (fun l : List Int => l.getD 4 0) hX), leI (congrArg (fun l : List Int => l.getD 5 0) hX), leI (congrArg (fun l : List Int => l.getD 6 0) hX), leI (congrArg (fun l : List Int => l.getD 7 0) hX), leI (congrArg (fun l : List Int => l.getD 8 0) hX), leI (congrArg (fun l : List Int => l.getD 9 0) hX), leI (congrArg (fun l : List Int => l.getD 10 0) hX), leI (congrArg (fun l : List Int => l.getD 11 0) hX), leI (congrArg (fun l : List Int => l.getD 12 0) hX), leI (congrArg (fun l : List Int => l.getD 13 0) hX), leI (congrArg (fun l : List Int => l.getD 14 0) hX), leI (congrArg (fun l : List Int => l.getD 15 0) hX), leI (congrArg (fun l : List Int => l.getD 16 0) hX), leI (congrArg (fun l : List Int => l.getD 17 0) hX), leI (congrArg (fun l : List Int => l.getD 18 0) hX), leI (congrArg (fun l : List Int => l.getD 19 0) hX), leI (congrArg (fun l : List Int => l.getD 20 0) hX), leI (congrArg (fun l : List Int => l.getD 21 0) hX), leI (congrArg (fun l : List Int => l.getD 22 0) hX), leI (congrArg (fun l : List Int => l.getD 23 0) hX), leI (congrArg (fun l : List Int => l.getD 24 0) hX), leI (congrArg (fun l : List Int => l.getD 25 0) hX), leI (congrArg (fun l : List Int => l.getD 26 0) hX), leI (congrArg (fun l : List Int => l.getD 27 0) hX), leI (congrArg (fun l : List Int => l.getD 28 0) hX), leI (congrArg (fun l : List Int => l.getD 29 0) hX), leI (congrArg (fun l : List Int => l.getD 30 0) hX), leI (congrArg (fun l : List Int => l.getD 31 0) hX), leI rfl⟩)) (leI rfl), rfl, rfl⟩
  · have c1 : (ps.length : Int) = 4 := Classical.byContradiction fun h => no c1 h
    refine ⟨⟨by omega, by show (1 : Int) < ps.length; omega⟩, ?_⟩
    refine ⟨[], _, hd, ?_⟩
    rintro r hh ⟨rfl, rfl⟩
    refine ⟨.inl rfl, ?_⟩
    refine ⟨⟨by omega, by show (2 : Int) < ps.length; omega⟩, ?_⟩
    refine ⟨[], _, hv, ?_⟩
    rintro r hh ⟨rfl, rfl⟩
    refine ⟨.inl rfl, ?_⟩
    refine .inr ⟨7, by decide +kernel, ?_⟩
    refine ⟨_, rfl, ?_⟩
    refine ⟨_, rfl, ?_⟩
    refine ⟨_, rfl, ?_⟩
    refine ⟨_, ⟨⟨by omega, by show (3 : Int) < ps.length; omega⟩, rfl⟩, ?_⟩
    refine ⟨_, rfl, ?_⟩
    refine ⟨_, rfl, ?_⟩
    refine ⟨_, _, ⟨rfl, rfl⟩, ?_⟩
    refine ⟨fun g => absurd (yes g) (by omega), fun _ => ?_⟩
    refine ⟨[], _, all38 ⟨trivial, trivial, trivial, trivial, trivial, trivial, trivial, trivial, trivial, trivial, trivial, trivial, trivial, trivial, trivial, trivial, trivial, trivial, trivial, trivial, trivial, trivial, trivial, trivial, trivial, trivial, trivial, trivial, trivial, trivial, trivial, trivial, trivial, trivial, trivial, trivial, trivial, trivial⟩, hl2.args ⟨vagg (all38 ⟨.refl _, .refl _, .refl _, .refl _, .refl _, .refl _, .refl _, .refl _, .refl _, .refl _, .refl _, .refl _, .refl _, .refl _, .refl _, .refl _, .refl _, .refl _, .refl _, .refl _, .refl _, .refl _, .refl _, .refl _, .refl _, .refl _, .refl _, .refl _, .refl _, .refl _, .refl _, .refl _, .refl _, .refl _, .refl _, .refl _, .refl _, .refl _⟩), trivial⟩, ?_⟩
    rintro r hh ⟨rfl, rfl⟩
    refine ⟨.inl rfl, ?_⟩
    have hr := hr4
    have hy := y2
    refine ⟨fun g1 => ?_, fun g1 => ⟨fun g2 => ?_, fun g2 => ?_⟩⟩
    · obtain ⟨rfl, rfl⟩ := hr (by omega) fun h => yes g1 h.1
      exact ⟨[], [], _, lehN _, le_pair (a := evV noneE) (.agg _ _ _ (all38 ⟨leI rfl, leI rfl, .nilR _ _, leI rfl, leS rfl, leI rfl, leI rfl, leI rfl, leI rfl, leI rfl, leI rfl, leI rfl, leI rfl, leI rfl, leI rfl, leI rfl, leI rfl, leI rfl, leI rfl, leI rfl, leI rfl, leI rfl, leI rfl, leI rfl, leI rfl, leI rfl, leI rfl, leI rfl, leI rfl, leI rfl, leI rfl, leI rfl, leI rfl, leI rfl, leI rfl, leI rfl, leI rfl, leI rfl⟩)) (leI rfl), rfl, rfl⟩
    · obtain ⟨rfl, rfl⟩ := hr (by omega) fun h => yes g2 h.2
      exact ⟨[], [], _, lehN _, le_pair (a := evV noneE) (.agg _ _ _ (all38 ⟨leI rfl, leI rfl, .nilR _ _, leI rfl, leS rfl, leI rfl, leI rfl, leI rfl, leI rfl, leI rfl, leI rfl, leI rfl, leI rfl, leI rfl, leI rfl, leI rfl, leI rfl, leI rfl, leI rfl, leI rfl, leI rfl, leI rfl, leI rfl, leI rfl, leI rfl, leI rfl, leI rfl, leI rfl, leI rfl, leI rfl, leI rfl, leI rfl, leI rfl, leI rfl, leI rfl, leI rfl, leI rfl, leI rfl⟩)) (leI rfl), rfl, rfl⟩
    · obtain ⟨rfl, rfl⟩ := hy (Classical.byContradiction (no g1)) (Classical.byContradiction (no g2))
      exact ⟨[], [], _, lehN _, le_pair (a := evV (abE 2 ps)) (.agg _ _ _ (all38 ⟨leI rfl, leI rfl, .same _ trivial, leI rfl, leS rfl, leI rfl, leI rfl, leI rfl, leI rfl, leI rfl, leI rfl, leI rfl, leI rfl, leI rfl, leI rfl, leI rfl, leI rfl, leI rfl, leI rfl, leI rfl, leI rfl, leI rfl, leI rfl, leI rfl, leI rfl, leI rfl, leI rfl, leI rfl, leI rfl, leI rfl, leI rfl, leI rfl, leI rfl, leI rfl, leI rfl, leI rfl, leI rfl, leI rfl⟩)) (leI rfl), rfl, rfl⟩

set_option maxHeartbeats 4000000 in
set_option maxRecDepth 10000 in
theorem lines_event (hG : NumG) (e : Ev) (s : ByteArray) (he : Fit e) (_ : s.size ≤ 9223372036854775807) : ACalls Tryz.prog 4 [evV e, str s] [] (fun r h => r = .tt ∧ h = []) := by
  have ha := awake_event hG
  have h1 := line_event hG e he
  have h2 := line_eref e he
  have h3 := fun hs => parse_event hG s hs
  have h4 := fun hs => parse_eref s hs
  have hfit := fun hs => fit_parse (s := s) hs
  generalize lineS e = LS at *
  generalize lineE e = LE at *
  generalize parseEe (pcs 32 s) = QX at *
  generalize parseEv (pcs 32 s) = QE at *
  refine rcalls Tryz.func4 rfl (by decide) ?_
  refine ⟨[], _, ha, ?_⟩
  rintro r hh ⟨rfl, rfl⟩
  refine ⟨.inl rfl, ?_⟩
  refine ⟨fun c => ?_, fun c => ⟨fun c2 => ?_, fun c2 => ?_⟩⟩
  · exact ⟨[], [], _, lehN _, .tt, rfl, rfl⟩
  · exact ⟨[], [], _, lehN _, .tt, rfl, rfl⟩
  have hs : (s.size : Int) ≤ 5000 := by have := no c2; omega
  have h3 := h3 (by omega)
  have h4 := h4 (by omega)
  have hfit := hfit (by omega)
  have h5 := (same_eref QE QE hfit hfit).yes (decide_eq_true (same_iff.2 rfl))
  refine ⟨[], _, box_free e, h1.args ⟨vbox e, trivial⟩, ?_⟩
  rintro r hh ⟨rfl, rfl⟩
  refine ⟨.inl rfl, ?_⟩
  refine ⟨[], _, box_free e, h2.args ⟨vbox e, trivial⟩, ?_⟩
  rintro r hh ⟨rfl, rfl⟩
  refine ⟨.inl rfl, ?_⟩
  refine ⟨[], _, h3, ?_⟩
  rintro r hh ⟨rfl, rfl⟩
  refine ⟨.inl rfl, ?_⟩
  refine ⟨[], _, h4, ?_⟩
  rintro r hh ⟨rfl, rfl⟩
  refine ⟨.inl rfl, ?_⟩
  refine ⟨fun _ => ?_, fun g => absurd rfl (no g)⟩
  refine ⟨fun _ => ?_, fun g => absurd rfl (no g)⟩
  refine ⟨[], _, box2_free QE _, box2_free QE _, h5.args ⟨vbox2 QE _, vbox2 QE _, trivial⟩, ?_⟩
  rintro r hh ⟨rfl, rfl⟩
  refine ⟨.inl rfl, ?_⟩
  exact ⟨[], [], .tt, lehN _, leTT (decide_eq_true rfl), rfl, rfl⟩

end
end Go.Proofs.YthckagkciefliaaGreatDoor.Ev

/-
  A history that is made by what replicas know: what holds of its events. No program in sight.
-/
set_option linter.unusedVariables false
namespace Go.Proofs.YthckagkciefliaaGreatDoor.Ev
open Go AL Spl Hx Dt Vc Pa Mt

/-- What somebody does. -/
structure Dd where
  who : Int
  other : Int
  path : Int
  learns : Bool
  gone : Bool
  size : Int
structure Dd.fit (d : Dd) : Prop where
  who : 0 ≤ d.who ∧ d.who < 256
  other : 0 ≤ d.other ∧ d.other < 256
  path : 0 ≤ d.path ∧ d.path < 256
  size : 0 ≤ d.size ∧ d.size < 256
def who3 (d : Dd) : Nat := (d.who % 3).toNat
def oth3 (d : Dd) : Nat := (d.other % 3).toNat
def paths4 : List ByteArray := [⟨#[97]⟩, ⟨#[97, 47, 98]⟩, ⟨#[99]⟩, ⟨#[100]⟩]
def path4 (d : Dd) : ByteArray := paths4.getD (d.path % 4).toNat ByteArray.empty
def sumOf (n : Int) : List Int := n :: List.replicate 31 0
def evOf (w : Nat) (kn : Vc1) (d : Dd) : Ev := ⟨w, getV kn w + 1, kn, if d.gone then 2 else 1, path4 d, if d.gone then zeros else sumOf d.size, if d.gone then 0 else d.size⟩
structure HSt where
  k : Nat → Vc1
  out : List Ev
def updK (k : Nat → Vc1) (w : Nat) (v : Vc1) : Nat → Vc1 := fun i => if i = w then v else k i
def withE (kn : Vc1) (e : Ev) : Vc1 := ofF (updF (cntF kn) (e.r, e.q))
def stepH (s : HSt) (d : Dd) : HSt :=
  if d.learns then ⟨updK s.k (who3 d) (joinV (s.k (who3 d)) (s.k (oth3 d))), s.out⟩
  else ⟨updK s.k (who3 d) (withE (s.k (who3 d)) (evOf (who3 d) (s.k (who3 d)) d)), s.out ++ [evOf (who3 d) (s.k (who3 d)) d]⟩
def h0 : HSt := ⟨fun _ => [], []⟩
def hist (l : List Dd) : HSt := (l.take 40).foldl stepH h0

/-- The one knows the other. -/
def kn (e f : Ev) : Prop := f.q ≤ cntF e.deps f.r.toNat
structure EvFit (e : Ev) : Prop where
  r : 0 ≤ e.r ∧ e.r < 3
  q : 1 ≤ e.q ∧ e.q ≤ 40
  canon : e.deps = ofF (cntF e.deps)
  own : cntF e.deps e.r.toNat = e.q - 1
  path : okOwn e.path ∧ e.path.size ≤ 3
  kind : e.kind = 1 ∧ 0 ≤ e.size ∧ e.size < 256 ∧ e.sum = sumOf e.size ∨ e.kind = 2 ∧ e.size = 0 ∧ e.sum = zeros
structure InvH (n : Nat) (s : HSt) : Prop where
  canon : ∀ w, s.k w = ofF (cntF (s.k w))
  bnd : ∀ w r, cntF (s.k w) r ≤ cntF (s.k r) r
  none : ∀ w, 3 ≤ w → s.k w = []
  num : ∀ r, cntF (s.k r) r ≤ n
  ev : ∀ e ∈ s.out, EvFit e ∧ e.q ≤ cntF (s.k e.r.toNat) e.r.toNat ∧ ∀ r, cntF e.deps r ≤ cntF (s.k r) r
  clos : ∀ w, ∀ e ∈ s.out, e.q ≤ cntF (s.k w) e.r.toNat → ∀ r, cntF e.deps r ≤ cntF (s.k w) r
  pair : ∀ e ∈ s.out, ∀ f ∈ s.out, kn e f → ∀ r, cntF f.deps r ≤ cntF e.deps r
  uniq : s.out.Pairwise fun e f => ¬ (e.r = f.r ∧ e.q = f.q)

theorem who_lt (d : Dd) : who3 d < 3 := by unfold who3; omega
theorem oth_lt (d : Dd) : oth3 d < 3 := by unfold oth3; omega
theorem path_ok (d : Dd) : okOwn (path4 d) ∧ (path4 d).size ≤ 3 := by
  unfold path4
  have h : (d.path % 4).toNat < 4 := by omega
  match (d.path % 4).toNat, h with
  | 0, _ => exact by decide +kernel
  | 1, _ => exact by decide +kernel
  | 2, _ => exact by decide +kernel
  | 3, _ => exact by decide +kernel
theorem getV_nat (l : Vc1) {w : Nat} (h : w < 32) : getV l (w : Int) = cntF l w := by
  unfold getV
  rw [if_neg (by omega), Int.toNat_natCast]
theorem inv0 : InvH 0 h0 := by
  exact ⟨fun w => (show ([] : Vc1) = ofF (cntF []) from rfl), fun w r => Int.le_refl _, fun w _ => rfl, fun r => Int.le_refl _, fun e he => absurd he (List.not_mem_nil), fun w e he => absurd he (List.not_mem_nil), fun e he => absurd he (List.not_mem_nil), List.Pairwise.nil⟩
theorem updK_self (k : Nat → Vc1) (w : Nat) (v : Vc1) : updK k w v w = v := if_pos rfl
theorem updK_other (k : Nat → Vc1) {w i : Nat} (v : Vc1) (h : i ≠ w) : updK k w v i = k i := if_neg h

theorem inv_learn {n : Nat} {s : HSt} (h : InvH n s) {w o : Nat} (hw : w < 3) : InvH n ⟨updK s.k w (joinV (s.k w) (s.k o)), s.out⟩ := by
  have hc : ∀ r, cntF (joinV (s.k w) (s.k o)) r = max (cntF (s.k w) r) (cntF (s.k o) r) := fun r => by rw [joinV_cnt]; rfl
  have hd : ∀ r, cntF (updK s.k w (joinV (s.k w) (s.k o)) r) r = cntF (s.k r) r := fun r => by
    by_cases e : r = w
    · subst e
      rw [updK_self, hc]
      have := h.bnd o r
      omega
    · rw [updK_other _ _ e]
  refine ⟨fun i => ?_, fun i r => ?_, fun i hi => ?_, fun r => ?_, fun e he => ?_, fun i e he hq r => ?_, h.pair, h.uniq⟩
  · by_cases e : i = w
    · subst e; rw [show (⟨updK s.k i (joinV (s.k i) (s.k o)), s.out⟩ : HSt).k i = joinV (s.k i) (s.k o) from updK_self ..]
      exact joinV_may _ _
    · rw [show (⟨updK s.k w (joinV (s.k w) (s.k o)), s.out⟩ : HSt).k i = s.k i from updK_other _ _ e]
      exact h.canon i
  · show cntF (updK s.k w _ i) r ≤ cntF (updK s.k w _ r) r
    rw [hd]
    by_cases e : i = w
    · subst e
      rw [updK_self, hc]
      have := h.bnd i r; have := h.bnd o r
      omega
    · rw [updK_other _ _ e]; exact h.bnd i r
  · show updK s.k w _ i = []
    rw [updK_other _ _ (by omega)]; exact h.none i hi
  · show cntF (updK s.k w _ r) r ≤ n
    rw [hd]; exact h.num r
  · obtain ⟨h1, h2, h3⟩ := h.ev e he
    refine ⟨h1, ?_, fun r => ?_⟩
    · show _ ≤ cntF (updK s.k w _ e.r.toNat) e.r.toNat
      rw [hd]; exact h2
    · show _ ≤ cntF (updK s.k w _ r) r
      rw [hd]; exact h3 r
  · have hq : e.q ≤ cntF (updK s.k w (joinV (s.k w) (s.k o)) i) e.r.toNat := hq
    show _ ≤ cntF (updK s.k w (joinV (s.k w) (s.k o)) i) r
    by_cases g : i = w
    · subst g
      rw [updK_self, hc] at hq ⊢
      rcases (by omega : e.q ≤ cntF (s.k i) e.r.toNat ∨ e.q ≤ cntF (s.k o) e.r.toNat) with k | k
      · have := h.clos i e he k r; omega
      · have := h.clos o e he k r; omega
    · rw [updK_other _ _ g] at hq ⊢
      exact h.clos i e he hq r
theorem inv_event {n : Nat} {s : HSt} (h : InvH n s) (hn : n < 40) {d : Dd} (hd : d.fit) {w : Nat} (hw : w < 3) : InvH (n + 1) ⟨updK s.k w (withE (s.k w) (evOf w (s.k w) d)), s.out ++ [evOf w (s.k w) d]⟩ := by
  obtain ⟨E, hE⟩ : ∃ E, evOf w (s.k w) d = E := ⟨_, rfl⟩
  have er : E.r = w := by rw [← hE]; rfl
  have eq : E.q = cntF (s.k w) w + 1 := by rw [← hE]; show getV (s.k w) w + 1 = _; rw [getV_nat _ (by omega)]
  have ed : E.deps = s.k w := by rw [← hE]; rfl
  have hnum := h.num w
  have hok : okF (cntF (s.k w)) := cnt_ok _
  have h0 := (hok w).1
  have hfit : EvFit E := by
    refine ⟨by omega, by omega, by rw [ed]; exact h.canon w, by rw [ed, er, Int.toNat_natCast]; omega, ?_, ?_⟩
    · rw [← hE]; exact path_ok d
    · rw [← hE]
      show (if d.gone then (2 : Int) else 1) = 1 ∧ 0 ≤ (if d.gone then 0 else d.size) ∧ (if d.gone then 0 else d.size) < 256 ∧ (if d.gone then zeros else sumOf d.size) = sumOf (if d.gone then 0 else d.size) ∨ (if d.gone then (2 : Int) else 1) = 2 ∧ (if d.gone then (0 : Int) else d.size) = 0 ∧ (if d.gone then zeros else sumOf d.size) = zeros
      cases d.gone
      · exact .inl ⟨rfl, hd.size.1, hd.size.2, rfl⟩
      · exact .inr ⟨rfl, rfl, rfl⟩
  rw [hE]
  have hm : mayD (w : Int) (cntF (s.k w) w + 1) := by unfold mayD; omega
  have hc : ∀ r, cntF (withE (s.k w) E) r = if r = w then cntF (s.k w) w + 1 else cntF (s.k w) r := fun r => by
    unfold withE
    rw [cnt_of (upd_ok hok _)]
    unfold updF
    rw [er, eq]
    dsimp only
    by_cases g : r = w
    · rw [if_pos ⟨hm, by rw [g, Int.toNat_natCast]⟩, if_pos g, g]; omega
    · rw [if_neg fun x => g (by rw [x.2, Int.toNat_natCast]), if_neg g]
  have up : ∀ i r, cntF (s.k i) r ≤ cntF (updK s.k w (withE (s.k w) E) i) r := fun i r => by
    by_cases g : i = w
    · subst g
      rw [updK_self, hc]
      split
      · rename_i e; subst e; omega
      · omega
    · rw [updK_other _ _ g]; omega
  have mem : ∀ e, e ∈ s.out ++ [E] → e ∈ s.out ∨ e = E := fun e he => by simpa using he
  refine ⟨fun i => ?_, fun i r => ?_, fun i hi => ?_, fun r => ?_, fun e he => ?_, fun i e he hq r => ?_, fun e he f hf hk r => ?_, ?_⟩
  · by_cases e : i = w
    · subst e
      show updK s.k i _ i = ofF (cntF (updK s.k i _ i))
      rw [updK_self]
      unfold withE
      rw [cnt_of (upd_ok hok _)]
    · show updK s.k w _ i = ofF (cntF (updK s.k w _ i))
      rw [updK_other _ _ e]; exact h.canon i
  · show cntF (updK s.k w _ i) r ≤ cntF (updK s.k w _ r) r
    by_cases e : i = w
    · subst e
      by_cases g : r = i
      · subst g; omega
      · have := up r r
        have := h.bnd i r
        rw [updK_self, hc, if_neg g]
        omega
    · have := up r r
      have := h.bnd i r
      rw [updK_other _ (w := w) (i := i) _ e]; omega
  · show updK s.k w _ i = []
    rw [updK_other _ _ (by omega)]; exact h.none i hi
  · show cntF (updK s.k w _ r) r ≤ ((n + 1 : Nat) : Int)
    have := h.num r
    by_cases g : r = w
    · subst g; rw [updK_self, hc, if_pos rfl]; omega
    · rw [updK_other _ _ g]; omega
  · show EvFit e ∧ e.q ≤ cntF (updK s.k w _ e.r.toNat) e.r.toNat ∧ ∀ r, cntF e.deps r ≤ cntF (updK s.k w _ r) r
    rcases mem e he with he' | rfl
    · obtain ⟨h1, h2, h3⟩ := h.ev e he'
      exact ⟨h1, Int.le_trans h2 (up _ _), fun r => Int.le_trans (h3 r) (up _ _)⟩
    · refine ⟨hfit, ?_, fun r => ?_⟩
      · rw [er, Int.toNat_natCast, updK_self, hc, if_pos rfl]; omega
      · rw [ed]; exact Int.le_trans (h.bnd w r) (up _ _)
  · have hq : e.q ≤ cntF (updK s.k w (withE (s.k w) E) i) e.r.toNat := hq
    show _ ≤ cntF (updK s.k w (withE (s.k w) E) i) r
    rcases mem e he with he' | rfl
    · by_cases g : i = w
      · subst g
        have k : e.q ≤ cntF (s.k i) e.r.toNat := by
          by_cases g2 : e.r.toNat = i
          · have := (h.ev e he').2.1
            rw [g2] at this ⊢; exact this
          · rw [updK_self, hc, if_neg g2] at hq; exact hq
        exact Int.le_trans (h.clos i e he' k r) (up _ _)
      · rw [updK_other _ _ g] at hq ⊢
        exact h.clos i e he' hq r
    · by_cases g : i = w
      · subst g; rw [ed]; exact up _ _
      · rw [updK_other _ _ g, er, Int.toNat_natCast] at hq
        have := h.bnd i w
        omega
  · unfold kn at hk
    rcases mem e he with he' | rfl
    · rcases mem f hf with hf' | rfl
      · exact h.pair e he' f hf' hk r
      · have := (h.ev e he').2.2 w
        rw [er, Int.toNat_natCast] at hk
        omega
    · rcases mem f hf with hf' | rfl
      · rw [ed] at hk ⊢
        exact h.clos w f hf' hk r
      · rw [ed, er, Int.toNat_natCast] at hk
        omega
  · refine List.pairwise_append.2 ⟨h.uniq, by simp, fun e he f hf => ?_⟩
    have : f = E := by simpa using hf
    subst this
    rintro ⟨g1, g2⟩
    have := (h.ev e he).2.1
    rw [g1, er, Int.toNat_natCast] at this
    omega
theorem inv_step {n : Nat} {s : HSt} (h : InvH n s) (hn : n < 40) {d : Dd} (hd : d.fit) : InvH (n + 1) (stepH s d) := by
  unfold stepH
  split
  · have := inv_learn h (w := who3 d) (o := oth3 d) (who_lt d)
    exact { this with num := fun r => by have := this.num r; omega }
  · exact inv_event h hn hd (who_lt d)
theorem inv_fold : ∀ (l : List Dd) (n : Nat) (s : HSt), InvH n s → n + l.length ≤ 40 → (∀ d ∈ l, d.fit) → InvH (n + l.length) (l.foldl stepH s)
  | [], n, s, h, _, _ => h
  | d :: l, n, s, h, hn, hd => by
    have := inv_fold l (n + 1) (stepH s d) (inv_step h (by simp at hn; omega) (hd d (by simp))) (by simp at hn ⊢; omega) (fun x hx => hd x (by simp [hx]))
    rw [show n + (d :: l).length = n + 1 + l.length by simp; omega]
    exact this
theorem inv_hist {l : List Dd} (hd : ∀ d ∈ l, d.fit) (k : Nat) (hk : k ≤ 40) : InvH 40 ((l.take k).foldl stepH h0) := by
  have := inv_fold (l.take k) 0 h0 inv0 (by simp; omega) (fun d h => hd d (List.mem_of_mem_take h))
  have hl : (l.take k).length ≤ 40 := by simp; omega
  exact { this with num := fun r => by have := this.num r; omega }

theorem evfit_fit {e : Ev} (h : EvFit e) : Fit e := by
  refine ⟨by rw [h.canon]; exact of_le _, by have := h.path.2; omega, ?_, ?_, by have := h.q; omega, ?_⟩
  · rcases h.kind with ⟨_, _, _, g⟩ | ⟨_, _, g⟩ <;> rw [g] <;> rfl
  · rcases h.kind with ⟨_, g1, g2, g⟩ | ⟨_, _, g⟩
    · rw [g]
      intro x hx
      rcases List.mem_cons.1 hx with rfl | hx
      · omega
      · have := (List.mem_replicate.1 hx).2; omega
    · rw [g]; decide
  · rcases h.kind with ⟨_, g1, g2, g⟩ | ⟨_, g, _⟩ <;> omega
theorem evfit_may {e : Ev} (h : EvFit e) : mayE e := by
  have hr := h.r; have hq := h.q
  refine ⟨⟨by unfold mayD; omega, h.canon, ?_, h.path.1⟩, ?_⟩
  · unfold getV; rw [if_neg (by omega)]; exact h.own
  · rcases h.kind with ⟨k, g1, g2, g⟩ | ⟨k, g1, g2⟩
    · exact .inl ⟨k, by omega, by omega⟩
    · exact .inr ⟨k, g1, g2⟩
theorem kn_iff {e f : Ev} (h : EvFit f) : (mayD f.r f.q ∧ f.q ≤ getV e.deps f.r) ↔ kn e f := by
  have hr := h.r; have hq := h.q
  unfold kn getV
  rw [if_neg (by omega)]
  exact ⟨fun x => x.2, fun x => ⟨by unfold mayD; omega, x⟩⟩
/-- What holds of the events of a history. -/
theorem hist_self {s : HSt} {n : Nat} (h : InvH n s) {e : Ev} (he : e ∈ s.out) : ¬ kn e e := fun hk => by
  have := (h.ev e he).1.own
  unfold kn at hk
  omega
theorem hist_pair {s : HSt} {n : Nat} (h : InvH n s) {e f : Ev} (he : e ∈ s.out) (hf : f ∈ s.out) (hk : kn e f) : ¬ kn f e ∧ leqV (cntF f.deps) (cntF e.deps) := by
  refine ⟨fun g => ?_, leq_iff.2 fun r _ => h.pair e he f hf hk r⟩
  have h1 := h.pair e he f hf hk e.r.toNat
  have h2 := (h.ev e he).1.own
  unfold kn at g
  omega
theorem hist_uniq {s : HSt} {n : Nat} (h : InvH n s) {i j : Nat} (hi : i < s.out.length) (hj : j < s.out.length) (hij : i ≠ j) : ¬ ((s.out[i]).r = (s.out[j]).r ∧ (s.out[i]).q = (s.out[j]).q) := by
  rcases Nat.lt_or_gt_of_ne hij with g | g
  · exact List.pairwise_iff_getElem.1 h.uniq i j hi hj g
  · intro x
    exact List.pairwise_iff_getElem.1 h.uniq j i hj hi g ⟨x.1.symm, x.2.symm⟩

end Go.Proofs.YthckagkciefliaaGreatDoor.Ev

/-
  A history that is made by what replicas know, walked.
-/
set_option linter.unusedVariables false
set_option linter.unusedSectionVars false
namespace Go.Proofs.YthckagkciefliaaGreatDoor.Ev
open Go AL Spl Hx Dt Vc Pa Mt

def dd0 : Dd := ⟨0, 0, 0, false, false, 0⟩
def ddC (d : Dd) : Nat → AV
  | 0 => int .u8 d.who
  | 1 => int .u8 d.other
  | 2 => int .u8 d.path
  | 3 => bool d.learns
  | 4 => bool d.gone
  | _ => int .u8 d.size
abbrev ddsV (l : List Dd) : AV := .rs l.length 6 fun i => ddC (l.getD (i / 6) dd0) (i % 6)
def rowE (l : List Ev) (i : Nat) : AV := evC (l.getD (i / 38) noneE) (i % 38)
abbrev evsV (l : List Ev) : AV := .rs l.length 38 (rowE l)
def stH (l : List Dd) (k : Nat) : HSt := (l.take k).foldl stepH h0
theorem stH_zero (l : List Dd) : stH l 0 = h0 := rfl
theorem stH_succ {l : List Dd} {k : Nat} (h : k < l.length) : stH l (k + 1) = stepH (stH l k) (l.getD k dd0) := by
  unfold stH
  rw [List.take_add_one, List.foldl_append, List.getElem?_eq_getElem h, List.getD_eq_getElem?_getD, List.getElem?_eq_getElem h]
  rfl
theorem stH_end {l : List Dd} {k : Nat} (h : l.length ≤ k ∨ k = 40) (hk : k ≤ 40) : stH l k = hist l := by
  unfold hist stH
  rcases h with h | rfl
  · rw [List.take_of_length_le h, List.take_of_length_le (by omega)]
  · rfl
theorem rowE_old (l : List Ev) (e : Ev) {i : Nat} (h : i < l.length * 38) : rowE (l ++ [e]) i = rowE l i := by
  unfold rowE
  have : i / 38 < l.length := by omega
  rw [List.getD_eq_getElem?_getD, List.getElem?_append_left this, List.getD_eq_getElem?_getD]
theorem rowE_new (l : List Ev) (e : Ev) {i : Nat} (h : i < 38) : rowE (l ++ [e]) (l.length * 38 + i) = evC e i := by
  unfold rowE
  have h1 : (l.length * 38 + i) / 38 = l.length := by omega
  have h2 : (l.length * 38 + i) % 38 = i := by omega
  rw [h1, h2, List.getD_eq_getElem?_getD, List.getElem?_append_right (Nat.le_refl _), Nat.sub_self]
  rfl
theorem rowE_at (l : List Ev) {k c : Nat} (h : c < 38) : rowE l (k * 38 + c) = evC (l.getD k noneE) c := by
  unfold rowE
  rw [show (k * 38 + c) / 38 = k by omega, show (k * 38 + c) % 38 = c by omega]
theorem dd_at (l : List Dd) {k c : Nat} (h : c < 6) : (fun i => ddC (l.getD (i / 6) dd0) (i % 6)) (k * 6 + c) = ddC (l.getD k dd0) c := by
  show ddC (l.getD ((k * 6 + c) / 6) dd0) ((k * 6 + c) % 6) = _
  rw [show (k * 6 + c) / 6 = k by omega, show (k * 6 + c) % 6 = c by omega]
theorem hist_len (l : List Dd) (k : Nat) : (stH l k).out.length ≤ k := by
  have : ∀ (m : List Dd) (s : HSt), (m.foldl stepH s).out.length ≤ s.out.length + m.length := fun m => by
    induction m with
    | nil => intro s; exact Nat.le_refl _
    | cons d m ih =>
      intro s
      have := ih (stepH s d)
      have h2 : (stepH s d).out.length ≤ s.out.length + 1 := by
        unfold stepH
        split
        · exact Nat.le_succ _
        · simp
      rw [List.foldl_cons, List.length_cons]; omega
  have := this (l.take k) h0
  have h3 : (l.take k).length ≤ k := by simp; omega
  have : h0.out.length = 0 := rfl
  unfold stH; omega

section
variable [Globs]

theorem pathsLeO {h : List AO} {l : List Nat} : LeO h l (.lst [str ⟨#[97]⟩, str ⟨#[97, 47, 98]⟩, str ⟨#[99]⟩, str ⟨#[100]⟩]) (.row 4 fun i => str (paths4.getD i ByteArray.empty)) :=
  .rowL [str ⟨#[97]⟩, str ⟨#[97, 47, 98]⟩, str ⟨#[99]⟩, str ⟨#[100]⟩] _ fun i hi => by
    match i, hi with
    | 0, _ => exact .raw _
    | 1, _ => exact .raw _
    | 2, _ => exact .raw _
    | 3, _ => exact .raw _
theorem nilsLeO {h : List AO} {l : List Nat} : LeO h l (.lst [.raw (.slice none 0 0), .raw (.slice none 0 0), .raw (.slice none 0 0)]) (.row 3 fun i => vecV (h0.k i)) :=
  .rowL [.raw (.slice none 0 0), .raw (.slice none 0 0), .raw (.slice none 0 0)] _ fun i hi => by
    match i, hi with
    | 0, _ => exact .nilR _ _
    | 1, _ => exact .nilR _ _
    | 2, _ => exact .nilR _ _
theorem nils3 {h : List AO} {l : List Nat} : LeO h l (.lst [.raw (.slice none 0 0), .raw (.slice none 0 0), .raw (.slice none 0 0)]) (.lst [.top, .top, .top]) :=
  .lst _ _ rfl fun i hi => by
    match i, hi with
    | 0, _ => exact .top _
    | 1, _ => exact .top _
    | 2, _ => exact .top _

theorem tops3 {h : List AO} {l : List Nat} : LeO h l (.lst [.top, .top, .top]) (.lst [.top, .top, .top]) :=
  .lst _ _ rfl fun i hi => by
    match i, hi with
    | 0, _ => exact .top _
    | 1, _ => exact .top _
    | 2, _ => exact .top _
theorem leh4 {h : List AO} {a b c d : Nat} {o0 o1 o2 o3 p0 p1 p2 p3 : AO} (hd : [a, b, c, d].Nodup) (ha : h[a]? = some p0) (hb : h[b]? = some p1) (hc : h[c]? = some p2) (hdd : h[d]? = some p3)
    (l0 : LeO h [a, b, c, d] p0 o0) (l1 : LeO h [a, b, c, d] p1 o1) (l2 : LeO h [a, b, c, d] p2 o2) (l3 : LeO h [a, b, c, d] p3 o3) : LeH 0 h [a, b, c, d] [o0, o1, o2, o3] :=
  ⟨rfl, Nat.zero_le _, fun i hi => absurd hi (Nat.not_lt_zero _), hd, fun i j o' hi ho => by
    match i, hi, ho with
    | 0, hi, ho => cases hi; cases ho; exact .inl ⟨_, ha, l0⟩
    | 1, hi, ho => cases hi; cases ho; exact .inl ⟨_, hb, l1⟩
    | 2, hi, ho => cases hi; cases ho; exact .inl ⟨_, hc, l2⟩
    | 3, hi, ho => cases hi; cases ho; exact .inl ⟨_, hdd, l3⟩
    | i + 4, hi, ho => simp at hi⟩
theorem ev_cell1 (e : Ev) : ∀ i, cell1 (evC e i) = true
  | 0 => rfl
  | 1 => rfl
  | 2 => rfl
  | 3 => rfl
  | 4 => rfl
  | i + 5 => by
    show cell1 (if i = 32 then int .i64 e.size else int .u8 (e.sum.getD i 0)) = true
    by_cases h : i = 32
    · rw [if_pos h]; rfl
    · rw [if_neg h]; rfl
theorem rowE_free (l : List Ev) (i : Nat) : (rowE l i).free := ev_free _ _
theorem off_nat (w : Nat) : addOff 0 ((w : Int)).toNat 1 = w := by simp [addOff]

set_option maxHeartbeats 8000000 in
set_option maxRecDepth 10000 in
theorem history_ref (l : List Dd) (hd : ∀ d ∈ l, d.fit) (hl : l.length ≤ 9223372036854775807) :
    ACalls Tryz.prog 26 [ddsV l] [] (fun r h => r = .tup 2 (pair (evsV (hist l).out) (.agg 3 fun i => vecV ((hist l).k i))) ∧ h = []) := by
  have hz := stH_zero l
  have hs := @stH_succ l
  have he := fun k h => @stH_end l k h
  have hn := hist_len l
  have hat := @dd_at l
  have hfit : ∀ k, k < l.length → (l.getD k dd0).fit := fun k hk => by
    rw [List.getD_eq_getElem?_getD, List.getElem?_eq_getElem hk]
    exact hd _ (List.getElem_mem hk)
  have hinv : ∀ k, k ≤ 40 → InvH 40 (stH l k) := fun k hk => inv_hist hd k hk
  generalize hist l = HH at *
  generalize stH l = st at *
  refine rcalls Tryz.func26 rfl (by decide) ?_
  refine ⟨Nat, fun k => [(0, ddsV l), (3, .ptr 0 0), (4, .ptr 1 0), (5, .own 3 0 (st k).out.length 38), (6, .own 2 0 4 1), (7, int .i64 k)], fun k => [.lst [.top, .top, .top], .row 3 fun i => vecV ((st k).k i), .row 4 fun i => str (paths4.getD i ByteArray.empty), .row ((st k).out.length * 38) (rowE (st k).out)], fun k => k ≤ l.length ∧ k ≤ 40, fun k => 40 - k,
    ⟨0, [0, 1, 2, 3], ⟨by omega, by omega⟩, ⟨rfl, by decide, fun i hi => absurd hi (Nat.not_lt_zero _), by decide, fun i j o' hi ho => ?_⟩, ⟨.same _ trivial, .ptr _ rfl, .ptr _ rfl, ?_, leOwn rfl rfl rfl, leI rfl, trivial⟩⟩, ?_⟩
  · dsimp only at ho
    rw [hz] at ho
    match i, hi, ho with
    | 0, hi, ho => cases hi; cases ho; exact .inl ⟨_, rfl, nils3⟩
    | 1, hi, ho => cases hi; cases ho; exact .inl ⟨_, rfl, nilsLeO⟩
    | 2, hi, ho => cases hi; cases ho; exact .inl ⟨_, rfl, pathsLeO⟩
    | 3, hi, ho => cases hi; cases ho; exact .inr ⟨Nat.zero_le _, by decide, .inr (.inr ⟨_, rfl⟩)⟩
    | i + 4, hi, ho => simp at hi
  · show LeV _ _ (.raw (.slice none 0 0)) (.own 3 0 (st 0).out.length 38)
    rw [hz]
    exact .nil _ _ (by decide)
  rintro k ⟨hk1, hk2⟩
  refine ⟨fun c1 => ⟨fun c2 => ?_, fun c2 => ?_⟩, fun c1 => ?_⟩
  rotate_left
  · have c2 : ¬ (k : Int) < 40 := no c2
    have hf := he k (by omega) hk2
    subst hf
    refine .inr ⟨3, by decide +kernel, ?_⟩
    refine ⟨_, rfl, ?_⟩
    refine ⟨.agg 3 fun i => vecV ((st k).k (0 + i)), ⟨by decide, rfl⟩, ?_⟩
    refine ⟨_, rfl, ?_⟩
    refine ⟨[], [], _, lehN _, le_pair (a := evsV (st k).out) (b := .agg 3 fun i => vecV ((st k).k i)) (.seen (.giveR (rowE (st k).out) rfl (by decide) (by omega) (fun i hi => by show LeV _ _ (rowE (st k).out (0 + i)) _; rw [show 0 + i = i from Nat.zero_add i]; exact .same _ (rowE_free _ _)) (fun i hi => rowE_free _ _)) (fun w S L v h => h)) (.agg _ _ _ fun i hi => ?_), rfl, rfl⟩
    match i, hi with
    | 0, _ => exact .same _ trivial
    | 1, _ => exact .same _ trivial
    | 2, _ => exact .same _ trivial
  · have c1 : ¬ (k : Int) < l.length := no c1
    have hf := he k (by omega) hk2
    subst hf
    refine .inr ⟨3, by decide +kernel, ?_⟩
    refine ⟨_, rfl, ?_⟩
    refine ⟨.agg 3 fun i => vecV ((st k).k (0 + i)), ⟨by decide, rfl⟩, ?_⟩
    refine ⟨_, rfl, ?_⟩
    refine ⟨[], [], _, lehN _, le_pair (a := evsV (st k).out) (b := .agg 3 fun i => vecV ((st k).k i)) (.seen (.giveR (rowE (st k).out) rfl (by decide) (by omega) (fun i hi => by show LeV _ _ (rowE (st k).out (0 + i)) _; rw [show 0 + i = i from Nat.zero_add i]; exact .same _ (rowE_free _ _)) (fun i hi => rowE_free _ _)) (fun w S L v h => h)) (.agg _ _ _ fun i hi => ?_), rfl, rfl⟩
    match i, hi with
    | 0, _ => exact .same _ trivial
    | 1, _ => exact .same _ trivial
    | 2, _ => exact .same _ trivial
  have c1 : (k : Int) < l.length := yes c1
  have c2 : (k : Int) < 40 := yes c2
  have hkl : k < l.length := by omega
  have fit := hfit k hkl
  have hstep := hs hkl
  have hinv := hinv k hk2
  have hnk := hn k
  have e1 : IntKind.i64.wrap ((k : Int) + 1) = ((k + 1 : Nat) : Int) := by rw [w64 (by omega) (by omega)]; omega
  have hatk := fun (c : Nat) (hc : c < 6) => hat (k := k) hc
  obtain ⟨d, hd'⟩ : ∃ d, l.getD k dd0 = d := ⟨_, rfl⟩
  rw [hd'] at fit hstep hatk
  obtain ⟨f1, f2, f3, f4⟩ := fit
  refine ⟨⟨by omega, c1⟩, ddC d, fun c hc => hatk c hc, ?_⟩
  have hw : (IntKind.i64.wrap d.who).tmod 3 = (who3 d : Int) := by
    rw [w64 (by omega) (by omega), Int.tmod_eq_emod_of_nonneg f1.1]; unfold who3; omega
  have ho : (IntKind.i64.wrap d.other).tmod 3 = (oth3 d : Int) := by
    rw [w64 (by omega) (by omega), Int.tmod_eq_emod_of_nonneg f2.1]; unfold oth3; omega
  have hp : (IntKind.i64.wrap d.path).tmod 4 = ((d.path % 4).toNat : Int) := by
    rw [w64 (by omega) (by omega), Int.tmod_eq_emod_of_nonneg f3.1]; omega
  have hw3 := who_lt d
  have ho3 := oth_lt d
  obtain ⟨w, ew⟩ : ∃ w, who3 d = w := ⟨_, rfl⟩
  obtain ⟨o, eo3⟩ : ∃ o, oth3 d = o := ⟨_, rfl⟩
  have hst : stepH (st k) d = if d.learns then ⟨updK (st k).k w (joinV ((st k).k w) ((st k).k o)), (st k).out⟩ else ⟨updK (st k).k w (withE ((st k).k w) (evOf w ((st k).k w) d)), (st k).out ++ [evOf w ((st k).k w) d]⟩ := by
    rw [← ew, ← eo3]; rfl
  rw [ew] at hw hw3
  rw [eo3] at ho ho3
  rw [hst] at hstep
  have hlen : ∀ i, ((st k).k i).length ≤ 9223372036854775807 := fun i => by rw [hinv.canon i]; exact of_le _
  refine ⟨by decide, ?_⟩
  rw [hw]
  refine ⟨fun c3 => ?_, fun c3 => ?_⟩
  · rw [c3] at hstep
    have ek : (st (k + 1)).k = updK (st k).k w (joinV ((st k).k w) ((st k).k o)) := by rw [hstep]; rfl
    have eo : (st (k + 1)).out = (st k).out := by rw [hstep]; rfl
    have hj := join_ref ((st k).k w) ((st k).k o) (hlen w) (hlen o)
    refine .inr ⟨12, by decide +kernel, ?_⟩
    refine ⟨_, rfl, ?_⟩
    refine ⟨_, rfl, ?_⟩
    refine ⟨.ptr 1 w, ⟨⟨by omega, by omega⟩, congrArg (AV.ptr 1) (off_nat w)⟩, ?_⟩
    refine ⟨vecV ((st k).k w), ⟨hw3, rfl⟩, ?_⟩
    refine ⟨_, rfl, ?_⟩
    refine ⟨_, rfl, ?_⟩
    refine ⟨_, rfl, ?_⟩
    refine ⟨int .i64 (o : Int), ⟨by decide, congrArg (fun x => int .i64 x) ho⟩, ?_⟩
    refine ⟨.ptr 1 o, ⟨⟨by omega, by omega⟩, congrArg (AV.ptr 1) (off_nat o)⟩, ?_⟩
    refine ⟨vecV ((st k).k o), ⟨ho3, rfl⟩, ?_⟩
    refine ⟨_, ⟨[], _, hj, by rintro r h ⟨rfl, rfl⟩; exact ⟨.inl rfl, rfl, rfl⟩⟩, ?_⟩
    refine ⟨.ptr 1 w, ⟨⟨by omega, by omega⟩, congrArg (AV.ptr 1) (off_nat w)⟩, ?_⟩
    refine ⟨hw3, fun i => vecV (updK (st k).k w (joinV ((st k).k w) ((st k).k o)) i), fun i hi => ?_, ?_⟩
    · show vecV (updK (st k).k w (joinV ((st k).k w) ((st k).k o)) i) = _
      unfold updK
      by_cases g : i = w
      · rw [if_pos g, if_pos g]; rfl
      · rw [if_neg g, if_neg g]
    refine ⟨trivial, k + 1, [0, 1, 2, 3], ⟨by omega, by omega⟩, by show 40 - (k + 1) < 40 - k; omega, ?_, ⟨.same _ trivial, .ptr _ rfl, .ptr _ rfl, ?_, leOwn rfl rfl rfl, leI e1, trivial⟩⟩
    · show LeH 0 _ _ [.lst [.top, .top, .top], .row 3 fun i => vecV ((st (k + 1)).k i), .row 4 fun i => str (paths4.getD i ByteArray.empty), .row ((st (k + 1)).out.length * 38) (rowE (st (k + 1)).out)]
      rw [ek, eo]
      exact leh4 (by decide) rfl rfl rfl rfl tops3 (.row _ _ _ _ (Nat.le_refl _) fun i hi => .same _ trivial) (.row _ _ _ _ (Nat.le_refl _) fun i hi => .raw _) (.row _ _ _ _ (Nat.le_refl _) fun i hi => .same _ (rowE_free _ _))
    · show LeV _ _ (.own 3 0 (st k).out.length 38) (.own 3 0 (st (k + 1)).out.length 38)
      rw [eo]
      exact leOwn rfl rfl rfl
  · rw [c3] at hstep
    have hnum := hinv.num w
    have h0' := (cnt_ok ((st k).k w) w).1
    have hgv := getV_nat ((st k).k w) (w := w) (by omega)
    obtain ⟨E, hE⟩ : ∃ E, evOf w ((st k).k w) d = E := ⟨_, rfl⟩
    have hE' : E = ⟨w, getV ((st k).k w) w + 1, (st k).k w, if d.gone then 2 else 1, path4 d, if d.gone then zeros else sumOf d.size, if d.gone then 0 else d.size⟩ := hE.symm
    rw [hE] at hstep
    have ek : (st (k + 1)).k = updK (st k).k w (withE ((st k).k w) E) := by rw [hstep]; rfl
    have eo : (st (k + 1)).out = (st k).out ++ [E] := by rw [hstep]; rfl
    have hg := get_ref ((st k).k w) w (hlen w)
    have hwith := with_ref ((st k).k w) w (getV ((st k).k w) w + 1) (hlen w)
    have hwe : withE ((st k).k w) E = ofF (updF (cntF ((st k).k w)) ((w : Int), getV ((st k).k w) w + 1)) := by rw [hE']; rfl
    rw [← hwe] at hwith
    have hp4 : (d.path % 4).toNat < 4 := by omega
    have hpath : str (path4 d) = str (paths4.getD (d.path % 4).toNat ByteArray.empty) := rfl
    generalize path4 d = PT at *
    generalize withE ((st k).k w) E = WE at *
    obtain ⟨kw, hkw⟩ : ∃ kw, (st k).k w = kw := ⟨_, rfl⟩
    rw [hkw] at hE' hg hwith hgv hnum h0'
    refine .inr ⟨26, by decide +kernel, ?_⟩
    refine ⟨_, rfl, ?_⟩
    refine ⟨_, rfl, ?_⟩
    refine ⟨.ptr 1 w, ⟨⟨by omega, by omega⟩, congrArg (AV.ptr 1) (off_nat w)⟩, ?_⟩
    refine ⟨vecV kw, ⟨hw3, by rw [← hkw]⟩, ?_⟩
    refine ⟨_, rfl, ?_⟩
    refine ⟨_, ⟨[], _, hg, by rintro r h ⟨rfl, rfl⟩; exact ⟨.inl rfl, rfl, rfl⟩⟩, ?_⟩
    refine ⟨int .i64 (getV kw w + 1), congrArg (fun x => int .i64 x) (w64 (by omega) (by omega)), ?_⟩
    refine ⟨_, rfl, ?_⟩
    refine ⟨_, rfl, ?_⟩
    refine ⟨.ptr 1 w, ⟨⟨by omega, by omega⟩, congrArg (AV.ptr 1) (off_nat w)⟩, ?_⟩
    refine ⟨vecV kw, ⟨hw3, by rw [← hkw]⟩, ?_⟩
    refine ⟨_, rfl, ?_⟩
    refine ⟨_, rfl, ?_⟩
    refine ⟨_, rfl, ?_⟩
    refine ⟨_, rfl, ?_⟩
    refine ⟨int .i64 ((d.path % 4).toNat : Int), ⟨by decide, congrArg (fun x => int .i64 x) hp⟩, ?_⟩
    refine ⟨.ptr 2 (d.path % 4).toNat, ⟨⟨by omega, by omega⟩, congrArg (AV.ptr 2) (off_nat _)⟩, ?_⟩
    refine ⟨str PT, ⟨hp4, hpath.symm⟩, ?_⟩
    refine ⟨_, rfl, ?_⟩
    refine ⟨_, rfl, ?_⟩
    refine ⟨_, rfl, ?_⟩
    refine ⟨_, rfl, ?_⟩
    refine ⟨_, rfl, ?_⟩
    refine ⟨int .i64 d.size, congrArg (fun x => int .i64 x) (w64 (by omega) (by omega)), ?_⟩
    refine ⟨_, ⟨rfl, rfl⟩, ?_⟩
    refine ⟨_, _, ⟨rfl, rfl⟩, ?_⟩
    refine ⟨fun c4 => ?_, fun c4 => ?_⟩
    · obtain ⟨EE, hEE⟩ : ∃ EE : Ev, EE = ⟨w, getV kw w + 1, kw, 2, PT, zeros, 0⟩ := ⟨_, rfl⟩
      have hE2 : E = EE := by rw [hE', hEE, c4]; rfl
      rw [hE2] at eo
      subst hEE
      refine ⟨rfl, ?_⟩
      refine .inr ⟨8, by decide +kernel, ?_⟩
      refine ⟨_, rfl, ?_⟩
      refine ⟨_, rfl, ?_⟩
      refine ⟨.ptr 1 w, ⟨⟨by omega, by omega⟩, congrArg (AV.ptr 1) (off_nat w)⟩, ?_⟩
      refine ⟨vecV kw, ⟨hw3, by rw [← hkw]⟩, ?_⟩
      refine ⟨_, rfl, ?_⟩
      refine ⟨_, rfl, ?_⟩
      refine ⟨_, ⟨[], _, dfree rfl rfl, hwith.args ⟨.refl _, vdot rfl rfl, trivial⟩, by rintro r h ⟨rfl, rfl⟩; exact ⟨.inl rfl, rfl, rfl⟩⟩, ?_⟩
      refine ⟨.ptr 1 w, ⟨⟨by omega, by omega⟩, congrArg (AV.ptr 1) (off_nat w)⟩, ?_⟩
      refine ⟨hw3, fun i => vecV (updK (st k).k w WE i), fun i hi => ?_, ?_⟩
      · show vecV (updK (st k).k w WE i) = _
        unfold updK
        by_cases g : i = w
        · rw [if_pos g, if_pos g]
        · rw [if_neg g, if_neg g]
      refine ⟨rfl, fun i _ => ev_cell1 _ _, Nat.le_refl 38, by show ((st k).out.length + 1) * 104 ≤ _; omega, all38 ⟨rfl, rfl, rfl, rfl, rfl, rfl, rfl, rfl, rfl, rfl, rfl, rfl, rfl, rfl, rfl, rfl, rfl, rfl, rfl, rfl, rfl, rfl, rfl, rfl, rfl, rfl, rfl, rfl, rfl, rfl, rfl, rfl, rfl, rfl, rfl, rfl, rfl, rfl⟩, rowE (st (k + 1)).out, fun i hi => by rw [eo]; exact rowE_old _ _ hi, ?_, ?_⟩
      · intro i hi
        rw [eo, rowE_new _ _ hi]
        revert i
        exact all38 ⟨rfl, rfl, rfl, rfl, rfl, rfl, rfl, rfl, rfl, rfl, rfl, rfl, rfl, rfl, rfl, rfl, rfl, rfl, rfl, rfl, rfl, rfl, rfl, rfl, rfl, rfl, rfl, rfl, rfl, rfl, rfl, rfl, rfl, rfl, rfl, rfl, rfl, rfl⟩
      refine ⟨trivial, k + 1, [0, 1, 2, 7], ⟨by omega, by omega⟩, by show 40 - (k + 1) < 40 - k; omega, ?_, ⟨.same _ trivial, .ptr _ rfl, .ptr _ rfl, ?_, leOwn rfl rfl rfl, leI e1, trivial⟩⟩
      · show LeH 0 _ _ [.lst [.top, .top, .top], .row 3 fun i => vecV ((st (k + 1)).k i), .row 4 fun i => str (paths4.getD i ByteArray.empty), .row ((st (k + 1)).out.length * 38) (rowE (st (k + 1)).out)]
        rw [ek, eo]
        refine leh4 (by decide) rfl rfl rfl rfl tops3 (.row _ _ _ _ (Nat.le_refl _) fun i hi => .same _ trivial) (.row _ _ _ _ (Nat.le_refl _) fun i hi => .raw _) ?_
        exact .row _ _ _ _ (by simp) fun i hi => .same _ (rowE_free _ _)
      · show LeV _ _ (.own 7 0 ((st k).out.length + 1) 38) (.own 3 0 (st (k + 1)).out.length 38)
        rw [eo]
        exact leOwn rfl rfl (by simp)
    · obtain ⟨EE, hEE⟩ : ∃ EE : Ev, EE = ⟨w, getV kw w + 1, kw, 1, PT, sumOf d.size, d.size⟩ := ⟨_, rfl⟩
      have hE2 : E = EE := by rw [hE', hEE, c4]; rfl
      rw [hE2] at eo
      subst hEE
      refine .inr ⟨8, by decide +kernel, ?_⟩
      refine ⟨_, rfl, ?_⟩
      refine ⟨_, rfl, ?_⟩
      refine ⟨.ptr 1 w, ⟨⟨by omega, by omega⟩, congrArg (AV.ptr 1) (off_nat w)⟩, ?_⟩
      refine ⟨vecV kw, ⟨hw3, by rw [← hkw]⟩, ?_⟩
      refine ⟨_, rfl, ?_⟩
      refine ⟨_, rfl, ?_⟩
      refine ⟨_, ⟨[], _, dfree rfl rfl, hwith.args ⟨.refl _, vdot rfl rfl, trivial⟩, by rintro r h ⟨rfl, rfl⟩; exact ⟨.inl rfl, rfl, rfl⟩⟩, ?_⟩
      refine ⟨.ptr 1 w, ⟨⟨by omega, by omega⟩, congrArg (AV.ptr 1) (off_nat w)⟩, ?_⟩
      refine ⟨hw3, fun i => vecV (updK (st k).k w WE i), fun i hi => ?_, ?_⟩
      · show vecV (updK (st k).k w WE i) = _
        unfold updK
        by_cases g : i = w
        · rw [if_pos g, if_pos g]
        · rw [if_neg g, if_neg g]
      refine ⟨rfl, fun i _ => ev_cell1 _ _, Nat.le_refl 38, by show ((st k).out.length + 1) * 104 ≤ _; omega, all38 ⟨rfl, rfl, rfl, rfl, rfl, rfl, rfl, rfl, rfl, rfl, rfl, rfl, rfl, rfl, rfl, rfl, rfl, rfl, rfl, rfl, rfl, rfl, rfl, rfl, rfl, rfl, rfl, rfl, rfl, rfl, rfl, rfl, rfl, rfl, rfl, rfl, rfl, rfl⟩, rowE (st (k + 1)).out, fun i hi => by rw [eo]; exact rowE_old _ _ hi, ?_, ?_⟩
      · intro i hi
        rw [eo, rowE_new _ _ hi]
        revert i
        exact all38 ⟨rfl, rfl, rfl, rfl, rfl, rfl, rfl, rfl, rfl, rfl, rfl, rfl, rfl, rfl, rfl, rfl, rfl, rfl, rfl, rfl, rfl, rfl, rfl, rfl, rfl, rfl, rfl, rfl, rfl, rfl, rfl, rfl, rfl, rfl, rfl, rfl, rfl, rfl⟩
      refine ⟨trivial, k + 1, [0, 1, 2, 7], ⟨by omega, by omega⟩, by show 40 - (k + 1) < 40 - k; omega, ?_, ⟨.same _ trivial, .ptr _ rfl, .ptr _ rfl, ?_, leOwn rfl rfl rfl, leI e1, trivial⟩⟩
      · show LeH 0 _ _ [.lst [.top, .top, .top], .row 3 fun i => vecV ((st (k + 1)).k i), .row 4 fun i => str (paths4.getD i ByteArray.empty), .row ((st (k + 1)).out.length * 38) (rowE (st (k + 1)).out)]
        rw [ek, eo]
        refine leh4 (by decide) rfl rfl rfl rfl tops3 (.row _ _ _ _ (Nat.le_refl _) fun i hi => .same _ trivial) (.row _ _ _ _ (Nat.le_refl _) fun i hi => .raw _) ?_
        exact .row _ _ _ _ (by simp) fun i hi => .same _ (rowE_free _ _)
      · show LeV _ _ (.own 7 0 ((st k).out.length + 1) 38) (.own 3 0 (st (k + 1)).out.length 38)
        rw [eo]
        exact leOwn rfl rfl (by simp)

end
end Go.Proofs.YthckagkciefliaaGreatDoor.Ev

/-
  The laws of event, walked: EventHistory.
-/
set_option linter.unusedVariables false
set_option linter.unusedSectionVars false
namespace Go.Proofs.YthckagkciefliaaGreatDoor.Ev
open Go AL Spl Hx Dt Vc Pa Mt

section
variable [Globs]

set_option maxRecDepth 10000 in
theorem leq_law (a b : Vc1) (ha : a.length ≤ 9223372036854775807) (hb : b.length ≤ 9223372036854775807) : ACalls Tryz.prog 28 [vecV a, vecV b] [] (fun r h => r = bool (decide (leqV (cntF a) (cntF b))) ∧ h = []) := by
  have h1 := leq_ref a b ha hb
  refine rcalls Tryz.func28 rfl (by decide) ?_
  refine ⟨[], _, h1, ?_⟩
  rintro r hh ⟨rfl, rfl⟩
  refine ⟨.inl rfl, ?_⟩
  exact ⟨[], [], _, lehN _, leB rfl, rfl, rfl⟩

set_option maxHeartbeats 8000000 in
set_option maxRecDepth 10000 in
theorem history_event (hG : NumG) (l : List Dd) (hd : ∀ d ∈ l, d.fit) (hl : l.length ≤ 9223372036854775807) : ACalls Tryz.prog 6 [ddsV l] [] (fun r h => r = .tt ∧ h = []) := by
  have ha := awake_event hG
  have hh := history_ref l hd hl
  have hinv := inv_hist hd 40 (Nat.le_refl _)
  have hinv : InvH 40 (hist l) := hinv
  have hlen : (hist l).out.length ≤ 40 := hist_len l 40
  generalize hist l = H at *
  obtain ⟨L, hL⟩ : ∃ L, H.out = L := ⟨_, rfl⟩
  have hmem : ∀ i, i < L.length → L.getD i noneE ∈ H.out := fun i hi => by
    rw [hL, List.getD_eq_getElem?_getD, List.getElem?_eq_getElem hi]; exact List.getElem_mem hi
  have hfit : ∀ i, i < L.length → EvFit (L.getD i noneE) := fun i hi => (hinv.ev _ (hmem i hi)).1
  have hself : ∀ i, i < L.length → ¬ kn (L.getD i noneE) (L.getD i noneE) := fun i hi => hist_self hinv (hmem i hi)
  have hpair : ∀ i j, i < L.length → j < L.length → kn (L.getD i noneE) (L.getD j noneE) → ¬ kn (L.getD j noneE) (L.getD i noneE) ∧ leqV (cntF (L.getD j noneE).deps) (cntF (L.getD i noneE).deps) := fun i j hi hj h => hist_pair hinv (hmem i hi) (hmem j hj) h
  have huniq : ∀ i j, i < L.length → j < L.length → i ≠ j → ¬ ((L.getD i noneE).r = (L.getD j noneE).r ∧ (L.getD i noneE).q = (L.getD j noneE).q) := fun i j hi hj hij => by
    have := hist_uniq hinv (i := i) (j := j) (by rw [hL]; exact hi) (by rw [hL]; exact hj) hij
    rw [List.getD_eq_getElem?_getD, List.getElem?_eq_getElem hi, List.getD_eq_getElem?_getD, List.getElem?_eq_getElem hj]
    simpa [hL] using this
  have hrow : ∀ (k c : Nat), c < 38 → rowE L (((k : Int)).toNat * 38 + c) = evC (L.getD k noneE) c := fun k c hc => rowE_at L hc
  rw [hL] at hh hlen
  refine rcalls Tryz.func6 rfl (by decide) ?_
  refine ⟨[], _, ha, ?_⟩
  rintro r hh ⟨rfl, rfl⟩
  refine ⟨.inl rfl, ?_⟩
  refine ⟨[], _, hh, ?_⟩
  rintro r hh ⟨rfl, rfl⟩
  refine ⟨.inl rfl, ?_⟩
  refine ⟨Nat, fun i => [(3, .tt), (4, evsV L), (6, int .i64 i)], fun _ => [], fun i => i ≤ L.length, fun i => L.length - i,
    ⟨0, [], Nat.zero_le _, lehN _, ⟨.tt, .same _ trivial, leI rfl, trivial⟩⟩, ?_⟩
  intro i hi
  refine ⟨fun c => ?_, fun c => ?_⟩
  rotate_left
  · exact ⟨[], [], .tt, lehN _, .tt, rfl, rfl⟩
  have c : (i : Int) < L.length := yes c
  have hil : i < L.length := by omega
  have fi := hfit i hil
  have e1 : IntKind.i64.wrap ((i : Int) + 1) = ((i + 1 : Nat) : Int) := by rw [w64 (by omega) (by omega)]; omega
  have hm := (may_event hG (L.getD i noneE) (evfit_fit fi)).yes (decide_eq_true (evfit_may fi))
  have hk := (knows_event (L.getD i noneE) (L.getD i noneE) (evfit_fit fi).deps).not (decide_eq_false fun h => hself i hil ((kn_iff fi).1 h))
  refine .inl ⟨⟨by decide +kernel, by decide +kernel⟩, ?_⟩
  refine ⟨⟨by omega, c⟩, evC (L.getD i noneE), hrow i, ?_⟩
  refine ⟨.bool true, fun i hi => ev_free _ _, hm.mono fun r h ⟨e1, e2⟩ => ⟨.inr (.inl ⟨e1, rfl⟩), e2⟩, ?_⟩
  refine ⟨fun h => absurd h (by decide), fun _ => ?_⟩
  refine ⟨⟨by omega, c⟩, evC (L.getD i noneE), hrow i, ?_⟩
  refine ⟨⟨by omega, c⟩, evC (L.getD i noneE), hrow i, ?_⟩
  refine ⟨.bool false, fun i hi => ev_free _ _, fun i hi => ev_free _ _, hk.mono fun r h ⟨e1, e2⟩ => ⟨.inr (.inr ⟨e1, rfl⟩), e2⟩, ?_⟩
  refine ⟨fun h => absurd h (by decide), fun _ => ?_⟩
  refine ⟨Nat, fun j => [(3, .tt), (4, evsV L), (6, int .i64 i), (7, int .i64 j)], fun _ => [], fun j => j ≤ L.length, fun j => L.length - j,
    ⟨0, [], Nat.zero_le _, lehN _, ⟨.tt, .same _ trivial, leI rfl, leI rfl, trivial⟩⟩, ?_⟩
  intro j hj
  refine ⟨fun c2 => ?_, fun c2 => ?_⟩
  rotate_left
  · refine ⟨trivial, i + 1, [], by show i + 1 ≤ _; omega, by show L.length - (i + 1) < L.length - i; omega, lehN _, ⟨.tt, .same _ trivial, leI e1, trivial⟩⟩
  have c2 : (j : Int) < L.length := yes c2
  have hjl : j < L.length := by omega
  have fj := hfit j hjl
  have e2 : IntKind.i64.wrap ((j : Int) + 1) = ((j + 1 : Nat) : Int) := by rw [w64 (by omega) (by omega)]; omega
  have ki := kn_iff (e := L.getD i noneE) fj
  have kj := kn_iff (e := L.getD j noneE) fi
  have h1 := knows_event (L.getD i noneE) (L.getD j noneE) (evfit_fit fi).deps
  have h2 := knows_event (L.getD j noneE) (L.getD i noneE) (evfit_fit fj).deps
  have h3 := leq_law (L.getD j noneE).deps (L.getD i noneE).deps (evfit_fit fj).deps (evfit_fit fi).deps
  have hp := hpair i j hil hjl
  have hu := huniq i j hil hjl
  refine .inl ⟨⟨by decide +kernel, by decide +kernel⟩, ?_⟩
  refine ⟨⟨by omega, c⟩, evC (L.getD i noneE), hrow i, ?_⟩
  refine ⟨⟨by omega, c2⟩, evC (L.getD j noneE), hrow j, ?_⟩
  by_cases hk : kn (L.getD i noneE) (L.getD j noneE)
  · obtain ⟨g1, g2⟩ := hp hk
    have h1 := h1.yes (decide_eq_true (ki.2 hk))
    have h2 := h2.not (decide_eq_false fun h => g1 (kj.1 h))
    have h3 := h3.yes (decide_eq_true g2)
    refine ⟨.bool true, fun i hi => ev_free _ _, fun i hi => ev_free _ _, h1.mono fun r h ⟨e1, e2⟩ => ⟨.inr (.inl ⟨e1, rfl⟩), e2⟩, ?_⟩
    refine ⟨fun _ => ?_, fun h => absurd h (by decide)⟩
    refine ⟨⟨by omega, c2⟩, evC (L.getD j noneE), hrow j, ?_⟩
    refine ⟨⟨by omega, c⟩, evC (L.getD i noneE), hrow i, ?_⟩
    refine ⟨.bool false, fun i hi => ev_free _ _, fun i hi => ev_free _ _, h2.mono fun r h ⟨e1, e2⟩ => ⟨.inr (.inr ⟨e1, rfl⟩), e2⟩, ?_⟩
    refine ⟨fun h => absurd h (by decide), fun _ => ?_⟩
    refine ⟨⟨by omega, c2⟩, evC (L.getD j noneE), hrow j, ?_⟩
    refine ⟨⟨by omega, c⟩, evC (L.getD i noneE), hrow i, ?_⟩
    refine ⟨.bool true, h3.mono fun r h ⟨e1, e2⟩ => ⟨.inr (.inl ⟨e1, rfl⟩), e2⟩, ?_⟩
    refine ⟨fun h => absurd h (by decide), fun _ => ?_⟩
    refine ⟨fun n => ?_, fun n => ?_⟩
    · have n : ¬ (i : Int) = j := yes n
      refine ⟨⟨by omega, c⟩, evC (L.getD i noneE), hrow i, ?_⟩
      refine ⟨⟨by omega, c2⟩, evC (L.getD j noneE), hrow j, ?_⟩
      refine ⟨⟨by decide +kernel, by decide +kernel, by decide +kernel⟩, ?_⟩
      refine ⟨fun q => absurd (leaf2.1 q) (hu (by omega)), fun q => ?_⟩
      exact ⟨trivial, j + 1, [], by show j + 1 ≤ _; omega, by show L.length - (j + 1) < L.length - j; omega, lehN _, ⟨.tt, .same _ trivial, leI rfl, leI e2, trivial⟩⟩
    · exact ⟨trivial, j + 1, [], by show j + 1 ≤ _; omega, by show L.length - (j + 1) < L.length - j; omega, lehN _, ⟨.tt, .same _ trivial, leI rfl, leI e2, trivial⟩⟩
  · have h1 := h1.not (decide_eq_false fun h => hk (ki.1 h))
    refine ⟨.bool false, fun i hi => ev_free _ _, fun i hi => ev_free _ _, h1.mono fun r h ⟨e1, e2⟩ => ⟨.inr (.inr ⟨e1, rfl⟩), e2⟩, ?_⟩
    refine ⟨fun h => absurd h (by decide), fun _ => ?_⟩
    refine ⟨fun n => ?_, fun n => ?_⟩
    · have n : ¬ (i : Int) = j := yes n
      refine ⟨⟨by omega, c⟩, evC (L.getD i noneE), hrow i, ?_⟩
      refine ⟨⟨by omega, c2⟩, evC (L.getD j noneE), hrow j, ?_⟩
      refine ⟨⟨by decide +kernel, by decide +kernel, by decide +kernel⟩, ?_⟩
      refine ⟨fun q => absurd (leaf2.1 q) (hu (by omega)), fun q => ?_⟩
      exact ⟨trivial, j + 1, [], by show j + 1 ≤ _; omega, by show L.length - (j + 1) < L.length - j; omega, lehN _, ⟨.tt, .same _ trivial, leI rfl, leI e2, trivial⟩⟩
    · exact ⟨trivial, j + 1, [], by show j + 1 ≤ _; omega, by show L.length - (j + 1) < L.length - j; omega, lehN _, ⟨.tt, .same _ trivial, leI rfl, leI e2, trivial⟩⟩

end
end Go.Proofs.YthckagkciefliaaGreatDoor.Ev

/-
  Lists of deeds that came in. No program in sight but for the deeds' shape.
-/
set_option linter.unusedVariables false
namespace Go.Proofs.YthckagkciefliaaGreatDoor.AL
open Go Go.ChangeShapes Go.WideShapes Go.ChangeAt Go.RowKit Go.Deep Go.Joins Go.WideElems
open Go.Proofs.YthckagkciefliaaGreatDoor.Vc Go.Proofs.YthckagkciefliaaGreatDoor.Mt Go.Proofs.YthckagkciefliaaGreatDoor.Ev Go.Proofs.YthckagkciefliaaGreatDoor.Hx

section
variable {H : Type} {enc : TypeId × Value → H} {P : Program}

structure DdT (P : Program) (e : TypeId) (f0 f1 f2 f3 f4 f5 : Field) : Prop where
  s : P.underlying e = some (.struct #[f0, f1, f2, f3, f4, f5])
  c : P.cellsOf e = 6
  off : f0.offset = 0 ∧ f1.offset = 1 ∧ f2.offset = 2 ∧ f3.offset = 3 ∧ f4.offset = 4 ∧ f5.offset = 5
  t0 : P.underlying f0.type = some (.int .u8)
  t1 : P.underlying f1.type = some (.int .u8)
  t2 : P.underlying f2.type = some (.int .u8)
  t3 : P.underlying f3.type = some .bool
  t4 : P.underlying f4.type = some .bool
  t5 : P.underlying f5.type = some (.int .u8)
  c0 : P.cellsOf f0.type = 1
  c1 : P.cellsOf f1.type = 1
  c2 : P.cellsOf f2.type = 1
  c3 : P.cellsOf f3.type = 1
  c4 : P.cellsOf f4.type = 1
  c5 : P.cellsOf f5.type = 1
structure Fd where
  f0 : Field
  f1 : Field
  f2 : Field
  f3 : Field
  f4 : Field
  f5 : Field
theorem ddT : ∃ F : Fd, DdT Tryz.prog 103 F.f0 F.f1 F.f2 F.f3 F.f4 F.f5 :=
  ⟨⟨_, _, _, _, _, _⟩, { s := Tryz.underlying103, c := (by kernel_rfl), off := ⟨rfl, rfl, rfl, rfl, rfl, rfl⟩, t0 := (by kernel_rfl), t1 := (by kernel_rfl), t2 := (by kernel_rfl), t3 := (by kernel_rfl), t4 := (by kernel_rfl), t5 := (by kernel_rfl), c0 := (by kernel_rfl), c1 := (by kernel_rfl), c2 := (by kernel_rfl), c3 := (by kernel_rfl), c4 := (by kernel_rfl), c5 := (by kernel_rfl) }⟩

theorem open_deeds {W : World} {base : Nat} {t e : TypeId} {f0 f1 f2 f3 f4 f5 : Field} {v : Value} {d : DataW H} {ps : List MemPlace} (T : DdT P e f0 f1 f2 f3 f4 f5) (ht : P.underlying t = some (.slice e))
    (hval : Value.okWide P W .any base t v) (h : DataW.Trod enc P W 0 (fun _ => true) true t v d ps) (hlt : ∀ x ∈ ps, x.block < W.heap.size) :
    ∃ L : List Dd, (∀ d ∈ L, d.fit) ∧ den W (allB W) .zero (ddsV L) v ∧ (d = .nil ∧ L = [] ∨ ∃ es rs, d = .slice es rs ∧ es.length = L.length) := by
  obtain ⟨o0, o1, o2, o3, o4, o5⟩ := T.off
  obtain ⟨L, q1, q2, q3⟩ := open_row ddC dd0 (fun d => d.fit) ht T.c (by decide) (fun n cs y hy hp => by
    obtain ⟨m0, z0, e0, _⟩ := field_at T.s hy hp 0 (f := f0) rfl
    obtain ⟨m1, z1, e1, _⟩ := field_at T.s hy hp 1 (f := f1) rfl
    obtain ⟨m2, z2, e2, _⟩ := field_at T.s hy hp 2 (f := f2) rfl
    obtain ⟨m3, z3, e3, _⟩ := field_at T.s hy hp 3 (f := f3) rfl
    obtain ⟨m4, z4, e4, _⟩ := field_at T.s hy hp 4 (f := f4) rfl
    obtain ⟨m5, z5, e5, _⟩ := field_at T.s hy hp 5 (f := f5) rfl
    rw [T.c0, o0] at e0
    rw [T.c1, o1] at e1
    rw [T.c2, o2] at e2
    rw [T.c3, o3] at e3
    rw [T.c4, o4] at e4
    rw [T.c5, o5] at e5
    obtain ⟨A0, r0, _, w0⟩ := DataW.trod_int T.t0 e0
    obtain ⟨A1, r1, _, w1⟩ := DataW.trod_int T.t1 e1
    obtain ⟨A2, r2, _, w2⟩ := DataW.trod_int T.t2 e2
    obtain ⟨A3, r3, _⟩ := DataW.trod_bool T.t3 e3
    obtain ⟨A4, r4, _⟩ := DataW.trod_bool T.t4 e4
    obtain ⟨A5, r5, _, w5⟩ := DataW.trod_int T.t5 e5
    refine ⟨⟨A0, A1, A2, A3, A4, A5⟩, ⟨wf_u8 w0, wf_u8 w1, wf_u8 w2, wf_u8 w5⟩, fun j hj v hv => ?_⟩
    match j, hj with
    | 0, _ => exact one_cell r0 hv
    | 1, _ => exact one_cell r1 hv
    | 2, _ => exact one_cell r2 hv
    | 3, _ => exact one_cell r3 hv
    | 4, _ => exact one_cell r4 hv
    | 5, _ => exact one_cell r5 hv) hval h hlt
  exact ⟨L, q1, q2, q3⟩

end
end Go.Proofs.YthckagkciefliaaGreatDoor.AL
