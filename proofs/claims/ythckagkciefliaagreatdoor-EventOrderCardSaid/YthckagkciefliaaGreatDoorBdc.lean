import Derived.Test.YthckagkciefliaaGreatDoorBdb

/-
  An event that came in by value. No program in sight.
-/
set_option linter.unusedVariables false
namespace Go.Proofs.YthckagkciefliaaGreatDoor.AL
open Go Go.ChangeShapes Go.WideShapes Go.ChangeAt Go.RowKit Go.Deep Go.Joins Go.WideElems
open Go.Proofs.YthckagkciefliaaGreatDoor.Vc Go.Proofs.YthckagkciefliaaGreatDoor.Mt Go.Proofs.YthckagkciefliaaGreatDoor.Ev Go.Proofs.YthckagkciefliaaGreatDoor.Hx

section
variable {H : Type} {enc : TypeId × Value → H} {P : Program}

def listInt (cs : List Value) (i : Nat) : Int :=
  match cs[i]? with
  | some (.int _ z) => z
  | _ => 0
/-- The numbers of an array among cells. -/
theorem open_cells_array {W : World} {m base n : Nat} {sp : Nat → Bool} {hd : Bool} {t e : TypeId} {k : IntKind} {cs : List Value} {x : DataW H × List MemPlace} (ht : P.underlying t = some (.array n e)) (he : P.underlying e = some (.int k)) (hc : P.cellsOf e = 1)
    (hf : DataW.trod enc P W base sp hd m t cs = some x) : ∃ xs : List Int, xs.length = n ∧ (∀ y ∈ xs, (Lit.int k y).wf = true) ∧ ∀ i, i < n → cs[i]? = some (.int k (xs.getD i 0)) := by
  obtain ⟨ys, m', _, _, _, hl, hel⟩ := DataW.trod_array ht hf
  have each : ∀ i, i < n → ∃ z, cs[i]? = some (.int k z) ∧ (Lit.int k z).wf = true := fun i hi => by
    have h1 := hel i hi
    rw [hc, Nat.mul_one, List.getElem?_eq_getElem (by omega)] at h1
    obtain ⟨z, e1, _, hw⟩ := DataW.trod_int he h1
    refine ⟨z, ?_, hw⟩
    have h2 : ((cs.drop i).take 1)[0]? = some (.int k z) := by rw [e1]; rfl
    simpa using h2
  refine ⟨(List.range n).map (listInt cs), by simp, fun y hy => ?_, fun i hi => ?_⟩
  · obtain ⟨i, hi, rfl⟩ := List.mem_map.1 hy
    obtain ⟨z, e1, hw⟩ := each i (List.mem_range.1 hi)
    simp only [listInt, e1]
    exact hw
  · obtain ⟨z, e1, _⟩ := each i hi
    simp [hi, e1, listInt]

structure EvT (P : Program) (t e ea : TypeId) (f0 f1 f2 f3 f4 f5 g0 g1 : Field) : Prop where
  s : P.underlying t = some (.struct #[f0, f1, f2, f3, f4, f5])
  c : P.cellsOf t = 38
  off : f0.offset = 0 ∧ f1.offset = 2 ∧ f2.offset = 3 ∧ f3.offset = 4 ∧ f4.offset = 5 ∧ f5.offset = 37
  dot : P.underlying f0.type = some (.struct #[g0, g1])
  cdot : P.cellsOf f0.type = 2
  goff : g0.offset = 0 ∧ g1.offset = 1
  h0 : P.underlying g0.type = some (.int .i64)
  h1 : P.underlying g1.type = some (.int .i64)
  c0 : P.cellsOf g0.type = 1
  c1 : P.cellsOf g1.type = 1
  vec : P.underlying f1.type = some (.slice e)
  cvec : P.cellsOf f1.type = 1
  el : P.underlying e = some (.struct #[g0, g1])
  cel : P.cellsOf e = 2
  kind : P.underlying f2.type = some (.int .i64)
  ckind : P.cellsOf f2.type = 1
  path : P.underlying f3.type = some .string
  cpath : P.cellsOf f3.type = 1
  sum : P.underlying f4.type = some (.array 32 ea)
  csum : P.cellsOf f4.type = 32
  byte : P.underlying ea = some (.int .u8)
  cbyte : P.cellsOf ea = 1
  size : P.underlying f5.type = some (.int .i64)
  csize : P.cellsOf f5.type = 1

theorem one_of {cs : List Value} {off : Nat} {u : Value} (h : (cs.drop off).take 1 = [u]) : cs[off]? = some u := by
  have := congrArg (fun l : List Value => l[0]?) h
  simpa using this
/-- The shape of events, in this program. -/
structure Fl where
  f0 : Field
  f1 : Field
  f2 : Field
  f3 : Field
  f4 : Field
  f5 : Field
  g0 : Field
  g1 : Field
theorem evT : ∃ F : Fl, EvT Tryz.prog 41 35 5 F.f0 F.f1 F.f2 F.f3 F.f4 F.f5 F.g0 F.g1 :=
  ⟨⟨_, _, _, _, _, _, _, _⟩, { s := Tryz.underlying41, c := (by kernel_rfl), off := ⟨rfl, rfl, rfl, rfl, rfl, rfl⟩, dot := Tryz.underlying35, cdot := (by kernel_rfl), goff := ⟨rfl, rfl⟩, h0 := (by kernel_rfl), h1 := (by kernel_rfl), c0 := (by kernel_rfl), c1 := (by kernel_rfl), vec := (by kernel_rfl), cvec := (by kernel_rfl), el := Tryz.underlying35, cel := (by kernel_rfl), kind := (by kernel_rfl), ckind := (by kernel_rfl), path := (by kernel_rfl), cpath := (by kernel_rfl), sum := (by kernel_rfl), csum := (by kernel_rfl), byte := (by kernel_rfl), cbyte := (by kernel_rfl), size := (by kernel_rfl), csize := (by kernel_rfl) }⟩

/-- An event's cells. -/
theorem open_event_cells {W : World} {n base : Nat} {t e ea : TypeId} {f0 f1 f2 f3 f4 f5 g0 g1 : Field} {cs : List Value} {y : DataW H × List MemPlace} (T : EvT P t e ea f0 f1 f2 f3 f4 f5 g0 g1)
    (hf : DataW.trod enc P W base (fun _ => true) true n t cs = some y) (hlt : ∀ p ∈ y.2, p.block < W.heap.size) :
    ∃ E : Ev, (E.deps.length ≤ maxLen ∧ E.sum.length = 32 ∧ (∀ x ∈ E.sum, (Lit.int .u8 x).wf = true) ∧ (Lit.int .i64 E.r).wf = true ∧ (Lit.int .i64 E.q).wf = true ∧ (Lit.int .i64 E.size).wf = true ∧ E.path.size ∈ y.1.weights P t) ∧
      cs.length = 38 ∧ ∀ i, i < 38 → ∃ u, cs[i]? = some u ∧ den W (allB W) .zero (evC E i) u := by
  obtain ⟨o0, o1, o2, o3, o4, o5⟩ := T.off
  obtain ⟨m0, z0, e0, p0⟩ := field_at T.s hf hlt 0 (f := f0) rfl
  obtain ⟨m1, z1, e1, p1⟩ := field_at T.s hf hlt 1 (f := f1) rfl
  obtain ⟨m2, z2, e2, p2⟩ := field_at T.s hf hlt 2 (f := f2) rfl
  obtain ⟨m4, z4, e4, p4⟩ := field_at T.s hf hlt 4 (f := f4) rfl
  obtain ⟨m5, z5, e5, p5⟩ := field_at T.s hf hlt 5 (f := f5) rfl
  rw [T.cdot, o0] at e0
  rw [T.cvec, o1] at e1
  rw [T.ckind, o2] at e2
  rw [T.csum, o4] at e4
  rw [T.csize, o5] at e5
  obtain ⟨n0, y0, d0, _⟩ := field_at T.dot e0 p0 0 (f := g0) rfl
  obtain ⟨n1, y1, d1, _⟩ := field_at T.dot e0 p0 1 (f := g1) rfl
  rw [T.c0, T.goff.1] at d0
  rw [T.c1, T.goff.2] at d1
  obtain ⟨R, qr, _, wr⟩ := DataW.trod_int T.h0 d0
  obtain ⟨Q, qq, _, wq⟩ := DataW.trod_int T.h1 d1
  obtain ⟨K, qk, _, wk⟩ := DataW.trod_int T.kind e2
  obtain ⟨Z, qz, _, wz⟩ := DataW.trod_int T.size e5
  obtain ⟨S, hS, wS, qS⟩ := open_cells_array T.sum T.byte T.cbyte e4
  have one : ∃ u, (cs.drop 2).take 1 = [u] := by
    rcases DataW.trod_slice T.vec e1 with ⟨hcs, _⟩ | ⟨a, len, cap, elems, rest, n', _, hcs, _⟩
    · exact ⟨_, hcs⟩
    · exact ⟨_, hcs⟩
  obtain ⟨u, hu⟩ := one
  rw [hu] at e1
  obtain ⟨l, l1, l2⟩ := open_vec_cell T.vec T.el T.cel T.h0 T.h1 T.c0 T.c1 T.goff e1 p1
  obtain ⟨xs, m, _, hy, hlen, hxl, hfs⟩ := DataW.trod_struct T.s hf
  have e3 := hfs 3 f3 rfl
  rw [T.cpath, o3] at e3
  have hx3 : 3 < xs.length := by rw [hxl]; show 3 < 6; decide
  rw [List.getElem?_eq_getElem hx3] at e3
  obtain ⟨s, qs, hxs, _⟩ := DataW.trod_string T.path e3
  rw [T.c] at hlen
  refine ⟨⟨R, Q, l, K, s, S, Z⟩, ⟨l1, hS, wS, wr, wq, wz, ?_⟩, hlen, fun i hi => ?_⟩
  · rw [hy]
    show s.size ∈ DataW.weights P t (.agg (xs.map (·.1)))
    unfold DataW.weights
    rw [T.s]
    refine DataW.weights_mem_each (j := 3) (t := f3.type) (d := .lit (.string s.data.toList)) rfl ?_ _ ?_
    · rw [List.getElem?_map, List.getElem?_eq_getElem hx3, hxs]; rfl
    · unfold DataW.weights
      exact List.mem_singleton.2 rfl
  · match i, hi with
    | 0, _ => exact ⟨_, by have := one_of qr; simpa using this, rfl⟩
    | 1, _ => exact ⟨_, by have := one_of qq; simpa using this, rfl⟩
    | 2, _ => exact ⟨_, one_of hu, l2⟩
    | 3, _ => exact ⟨_, one_of qk, rfl⟩
    | 4, _ => exact ⟨_, one_of qs, rfl⟩
    | i + 5, hi =>
      rcases Nat.lt_or_ge i 32 with h | h
      · refine ⟨.int .u8 (S.getD i 0), ?_, ?_⟩
        · have := qS i h
          rw [List.getElem?_take, if_pos h, List.getElem?_drop] at this
          rw [Nat.add_comm]; exact this
        · show den W _ .zero (if i = 32 then int .i64 Z else int .u8 (S.getD i 0)) _
          rw [if_neg (by omega)]
          rfl
      · obtain rfl : i = 32 := by omega
        exact ⟨_, one_of qz, rfl⟩
/-- An event that came in. -/
theorem open_event {W : World} {base : Nat} {t e ea : TypeId} {f0 f1 f2 f3 f4 f5 g0 g1 : Field} {v : Value} {d : DataW H} {ps : List MemPlace} (T : EvT P t e ea f0 f1 f2 f3 f4 f5 g0 g1)
    (hval : Value.okWide P W .any base t v) (h : DataW.Trod enc P W 0 (fun _ => true) true t v d ps) (hlt : ∀ x ∈ ps, x.block < W.heap.size) :
    ∃ E : Ev, den W (allB W) .zero (evV E) v ∧ ((∀ n ∈ d.weights P t, n ≤ reachBytes) → Fit E) := by
  obtain ⟨cs, rfl, hsz⟩ := okWide_struct T.s hval
  obtain ⟨fuel, hf⟩ := h
  obtain ⟨E, ⟨h1, h2, h3, h4, h5, h6, h7⟩, h8, h9⟩ := open_event_cells T hf hlt
  refine ⟨E, ⟨cs, rfl, hsz.trans T.c, fun i hi => ?_⟩, fun hw => ?_⟩
  · obtain ⟨u, g1, g2⟩ := h9 i hi
    exact ⟨u, by simpa [Value.cells] using g1, g2⟩
  · have := hw _ h7
    have := reachBytes_lt
    have w5 := wf_i64 h5
    have w6 := wf_i64 h6
    exact ⟨by unfold maxLen at h1; omega, by omega, h2, fun x hx => wf_u8 (h3 x hx), w5, w6⟩

end
end Go.Proofs.YthckagkciefliaaGreatDoor.AL

/-
  The laws of event, walked: EventBack, EventBad.
-/
set_option linter.unusedVariables false
set_option linter.unusedSectionVars false
namespace Go.Proofs.YthckagkciefliaaGreatDoor.Ev
open Go AL Spl Hx Dt Vc Pa

theorem lineE_cases (e : Ev) : lineE e = 0 ∧ mayE e ∨ lineE e = 1 ∧ ¬ mayE e ∧ lineS e = ByteArray.empty := by
  unfold lineE lineS
  by_cases h : mayE e
  · exact .inl ⟨if_pos h, h⟩
  · exact .inr ⟨if_neg h, h, if_neg h⟩
theorem same_iff {e f : Ev} : sameE e f ↔ e = f := by
  unfold sameE
  obtain ⟨⟩ := e
  obtain ⟨⟩ := f
  simp only [Ev.mk.injEq]
  exact ⟨fun ⟨⟨a, b⟩, c⟩ => ⟨a, b, c⟩, fun ⟨a, b, c⟩ => ⟨⟨a, b⟩, c⟩⟩
theorem parseEe_cases (ps : List ByteArray) : parseEe ps = 0 ∨ parseEe ps = 2 ∧ parseEv ps = noneE := by
  by_cases h : parseEe ps = 0
  · exact .inl h
  · have := parse_none h; exact .inr ⟨this.1, this.2.1⟩
theorem line_size {e : Ev} (hf : Fit e) : (lineS e).size ≤ 2000 := by
  unfold lineS
  split
  · rename_i h
    have hpl : e.path.size ≤ 254 := h.1.2.2.2.1.2.1
    have hd : (textD e.r e.q).size ≤ 43 := text_size_le (by have := h.1.1.1; have := h.1.1.2.1; omega) hf.q
    have hvl : (textV (ofF (cntF e.deps))).size ≤ 1408 := Mt.textR_size e.deps
    have h64 : (textS e.sum).size = 64 := (Hx.parse_text hf.sum hf.byte).2.2
    have h21 := num_size_le hf.size.1 hf.size.2
    have hl : ∀ ws, (lineT ws).size = (joinC 32 (ws.map (·.data.toList))).length := fun ws => by rw [← lineT_list]; rfl
    rw [hl]
    unfold wordsE
    split
    · simp only [joinC, List.map_cons, List.map_nil, List.flatMap_cons, List.flatMap_nil, List.length_append, List.length_cons, List.length_nil]
      show 3 + ((textD e.r e.q).size + 1 + ((textV (ofF (cntF e.deps))).size + 1 + (e.path.size + 1 + 0))) ≤ _
      omega
    · simp only [joinC, List.map_cons, List.map_nil, List.flatMap_cons, List.flatMap_nil, List.length_append, List.length_cons, List.length_nil]
      show 3 + ((textD e.r e.q).size + 1 + ((textV (ofF (cntF e.deps))).size + 1 + (e.path.size + 1 + ((textS e.sum).size + 1 + ((numS e.size).size + 1 + 0))))) ≤ _
      omega
  · exact Nat.zero_le _

section
variable [Globs]

set_option maxHeartbeats 4000000 in
set_option maxRecDepth 10000 in
theorem back_event (hG : NumG) (e : Ev) (s : ByteArray) (he : Fit e) (_ : s.size ≤ 9223372036854775807) : ACalls Tryz.prog 5 [evV e, str s] [] (fun r h => r = .tt ∧ h = []) := by
  have ha := awake_event hG
  have h1 := line_event hG e he
  have h2 := parse_event hG (lineS e) (by have := line_size he; omega)
  have k2 : mayE e → parseEv (pcs 32 (lineS e)) = e ∧ parseEe (pcs 32 (lineS e)) = 0 := fun h => parse_line h he
  have h3 := may_event hG e he
  have hc := lineE_cases e
  have h5 := fun hs => parse_event hG s hs
  have hfit := fun hs => fit_parse (s := s) hs
  have h6 := fun hs => line_event hG (parseEv (pcs 32 s)) (hfit hs)
  have h7 := fun hs => may_event hG (parseEv (pcs 32 s)) (hfit hs)
  have q1 := fun h => line_parse (s := s) h
  have q2 := parseEe_cases (pcs 32 s)
  have q3 := lineE_cases (parseEv (pcs 32 s))
  have hsz := line_size he
  generalize parseEv (pcs 32 (lineS e)) = PE at *
  generalize parseEe (pcs 32 (lineS e)) = PX at *
  generalize lineS e = LS at *
  generalize lineE e = LE at *
  generalize parseEe (pcs 32 s) = QX at *
  generalize parseEv (pcs 32 s) = QE at *
  generalize lineS QE = LQ at *
  generalize lineE QE = LX at *
  refine rcalls Tryz.func5 rfl (by decide) ?_
  refine ⟨[], _, ha, ?_⟩
  rintro r hh ⟨rfl, rfl⟩
  refine ⟨.inl rfl, ?_⟩
  refine ⟨fun c => ?_, fun c => ⟨fun c2 => ?_, fun c2 => ?_⟩⟩
  · exact ⟨[], [], _, lehN _, .tt, rfl, rfl⟩
  · exact ⟨[], [], _, lehN _, .tt, rfl, rfl⟩
  have hs : (s.size : Int) ≤ 5000 := by have := no c2; omega
  have h5 := h5 (by omega)
  have h6 := h6 (by omega)
  have h7 := h7 (by omega)
  refine ⟨[], _, box_free e, h1.args ⟨vbox e, trivial⟩, ?_⟩
  rintro r hh ⟨rfl, rfl⟩
  refine ⟨.inl rfl, ?_⟩
  refine ⟨fun c3 => ?_, fun c3 => ?_⟩
  · have hm : mayE e := by
      rcases hc with hc | hc
      · exact hc.2
      · exact absurd hc.1 (by have := yes c3; omega)
    obtain ⟨rfl, rfl⟩ := k2 hm
    obtain rfl : LE = 0 := yes c3
    have h3 := h3.yes (decide_eq_true hm)
    have h4 := (same_eref PE PE he he).yes (decide_eq_true (same_iff.2 rfl))
    refine ⟨[], _, h2, ?_⟩
    rintro r hh ⟨rfl, rfl⟩
    refine ⟨.inl rfl, ?_⟩
    refine ⟨fun c4 => absurd rfl (yes c4), fun _ => ?_⟩
    refine ⟨[], _, box2_free PE _, box_free PE, h4.args ⟨vbox2 PE _, vbox PE, trivial⟩, ?_⟩
    rintro r hh ⟨rfl, rfl⟩
    refine ⟨.inl rfl, ?_⟩
    refine ⟨[], _, h5, ?_⟩
    rintro r hh ⟨rfl, rfl⟩
    refine ⟨.inl rfl, ?_⟩
    refine ⟨[], _, box2_free QE _, h6.args ⟨vbox2 QE _, trivial⟩, ?_⟩
    rintro r hh ⟨rfl, rfl⟩
    refine ⟨.inl rfl, ?_⟩
    refine ⟨[], _, box_free PE, h3.args ⟨vbox PE, trivial⟩, ?_⟩
    rintro r hh ⟨rfl, rfl⟩
    refine ⟨.inl rfl, ?_⟩
    refine ⟨fun _ => ?_, fun g => (nof g rfl).elim⟩
    refine ⟨fun d => ?_, fun d => ?_⟩
    · obtain ⟨m1, m2⟩ := q1 (yes d)
      have h7 := h7.yes (decide_eq_true m1)
      have hx : LX = 0 := by
        rcases q3 with q3 | q3
        · exact q3.1
        · exact absurd m1 q3.2.1
      refine ⟨fun _ => ?_, fun g => absurd hx (no g)⟩
      refine ⟨[], _, box2_free QE _, h7.args ⟨vbox2 QE _, trivial⟩, ?_⟩
      rintro r hh ⟨rfl, rfl⟩
      refine ⟨.inl rfl, ?_⟩
      refine ⟨fun _ => ?_, fun g => absurd m2 (no g)⟩
      exact ⟨[], [], .tt, lehN _, .tt, rfl, rfl⟩
    · have d : ¬ QX = 0 := no d
      obtain ⟨m1, m2⟩ := q2.resolve_left d
      refine ⟨fun _ => ?_, fun g => absurd m1 (no g)⟩
      exact ⟨[], [], .tt, lehN _, leTT (decide_eq_true (by rw [m2]; rfl)), rfl, rfl⟩
  · have c3 : ¬ LE = 0 := no c3
    have hm : ¬ mayE e := fun h => by
      rcases hc with hc | hc
      · exact c3 hc.1
      · exact hc.2.1 h
    have h3 := h3.not (decide_eq_false hm)
    have c4 : (decide (LE = 0) == false) = true := by rw [decide_eq_false c3]; rfl
    refine ⟨[], _, h5, ?_⟩
    rintro r hh ⟨rfl, rfl⟩
    refine ⟨.inl rfl, ?_⟩
    refine ⟨[], _, box2_free QE _, h6.args ⟨vbox2 QE _, trivial⟩, ?_⟩
    rintro r hh ⟨rfl, rfl⟩
    refine ⟨.inl rfl, ?_⟩
    refine ⟨[], _, box_free e, h3.args ⟨vbox e, trivial⟩, ?_⟩
    rintro r hh ⟨rfl, rfl⟩
    refine ⟨.inl rfl, ?_⟩
    refine ⟨fun _ => ?_, fun g => (nof g c4).elim⟩
    refine ⟨fun d => ?_, fun d => ?_⟩
    · obtain ⟨m1, m2⟩ := q1 (yes d)
      have h7 := h7.yes (decide_eq_true m1)
      have hx : LX = 0 := by
        rcases q3 with q3 | q3
        · exact q3.1
        · exact absurd m1 q3.2.1
      refine ⟨fun _ => ?_, fun g => absurd hx (no g)⟩
      refine ⟨[], _, box2_free QE _, h7.args ⟨vbox2 QE _, trivial⟩, ?_⟩
      rintro r hh ⟨rfl, rfl⟩
      refine ⟨.inl rfl, ?_⟩
      refine ⟨fun _ => ?_, fun g => absurd m2 (no g)⟩
      exact ⟨[], [], .tt, lehN _, .tt, rfl, rfl⟩
    · have d : ¬ QX = 0 := no d
      obtain ⟨m1, m2⟩ := q2.resolve_left d
      refine ⟨fun _ => ?_, fun g => absurd m1 (no g)⟩
      exact ⟨[], [], .tt, lehN _, leTT (decide_eq_true (by rw [m2]; rfl)), rfl, rfl⟩

end
end Go.Proofs.YthckagkciefliaaGreatDoor.Ev

/-
  The laws of event, walked: EventBad.
-/
set_option linter.unusedVariables false
set_option linter.unusedSectionVars false
namespace Go.Proofs.YthckagkciefliaaGreatDoor.Ev
open Go AL Spl Hx Dt Vc Pa

theorem line_snoc {ws : List ByteArray} (h : ws ≠ []) : lineT ws ++ ⟨#[32]⟩ = lineT (ws ++ [ByteArray.empty]) := by
  refine bA_ext ?_
  rw [lineT_list, List.map_append, List.map_singleton, join_snoc 32 _ (by simpa using h), show (lineT ws ++ ⟨#[32]⟩).data.toList = (lineT ws).data.toList ++ [32] by simp, lineT_list]
  rfl
theorem line_front {ws : List ByteArray} (h : ws ≠ []) : (⟨#[32]⟩ : ByteArray) ++ lineT ws = lineT (ByteArray.empty :: ws) := by
  refine bA_ext ?_
  rw [show ((⟨#[32]⟩ : ByteArray) ++ lineT ws).data.toList = 32 :: (lineT ws).data.toList by simp, lineT_list, lineT_list]
  match ws, h with
  | a :: r, _ => rw [List.map_cons (a := ByteArray.empty), List.map_cons, join_cons]; rfl
theorem line_word {w w' : ByteArray} {ws : List ByteArray} (h3 : w.size = 3) (h : ws ≠ []) : w' ++ (lineT (w :: ws)).extract 3 (lineT (w :: ws)).size = lineT (w' :: ws) ∧ 4 ≤ (lineT (w :: ws)).size := by
  have hl : ∀ v, (lineT (v :: ws)).data.toList = v.data.toList ++ 32 :: joinC 32 (ws.map (·.data.toList)) := fun v => by
    rw [lineT_list]
    match ws, h with
    | a :: r, _ => rw [List.map_cons, List.map_cons, join_cons]
  have h3 : w.data.toList.length = 3 := h3
  have hs : (lineT (w :: ws)).size = (lineT (w :: ws)).data.toList.length := rfl
  refine ⟨?_, ?_⟩
  · refine bA_ext ?_
    rw [hl]
    have : (w' ++ (lineT (w :: ws)).extract 3 (lineT (w :: ws)).size).data.toList = w'.data.toList ++ ((lineT (w :: ws)).extract 3 (lineT (w :: ws)).size).data.toList := by simp
    rw [this, Dt.extract_list, hs, List.take_of_length_le (Nat.le_refl _), hl, List.drop_append_of_le_length (by omega), List.drop_of_length_le (by omega)]
    rfl
  · rw [hs, hl, List.length_append, List.length_cons]; omega
theorem other_len {ps : List ByteArray} (h4 : ps.length ≠ 4) (h6 : ps.length ≠ 6) : parseEe ps = 2 := by
  unfold parseEe
  rw [if_neg fun h => h.elim (fun x => h4 x.1) fun x => h6 x.1]
theorem words_len (e : Ev) : (wordsE e).length = 4 ∨ (wordsE e).length = 6 := by
  unfold wordsE; split
  · exact .inl rfl
  · exact .inr rfl
theorem bad_end {e : Ev} (h : mayE e) (hf : Fit e) : parseEe (pcs 32 (lineS e ++ ⟨#[32]⟩)) = 2 := by
  have : lineS e = lineT (wordsE e) := if_pos h
  rw [this, line_snoc (words_ne e), pcs_line (by simp) (fun p hp => by
    rw [List.map_append] at hp
    rcases List.mem_append.1 hp with hp | hp
    · exact words_free h hf p hp
    · have : p = [] := by simpa using hp
      subst this; intro x hx; cases hx)]
  have := words_len e
  exact other_len (by simp; omega) (by simp; omega)
theorem bad_front {e : Ev} (h : mayE e) (hf : Fit e) : parseEe (pcs 32 ((⟨#[32]⟩ : ByteArray) ++ lineS e)) = 2 := by
  have : lineS e = lineT (wordsE e) := if_pos h
  rw [this, line_front (words_ne e), pcs_line (by simp) (fun p hp => by
    rw [List.map_cons] at hp
    rcases List.mem_cons.1 hp with hp | hp
    · have : p = [] := by simpa using hp
      subst this; intro x hx; cases hx
    · exact words_free h hf p hp)]
  have := words_len e
  exact other_len (by simp; omega) (by simp; omega)
theorem bad_cut {e : Ev} {s : ByteArray} (hs : s ≠ lineS e) (h : parseEe (pcs 32 s) = 0) : ¬ sameE (parseEv (pcs 32 s)) e := fun g => by
  have := (line_parse h).2
  rw [same_iff.1 g] at this
  exact hs this.symm
theorem cut_ne {s : ByteArray} {k : Nat} (hk : k < s.size) : s.extract 0 k ≠ s := fun h => by
  have := congrArg ByteArray.size h
  rw [ByteArray.size_extract] at this
  omega
theorem line_two {e : Ev} (h : mayE e) (k : e.kind = 2) : lineS e = lineT [dl, textD e.r e.q, textV (ofF (cntF e.deps)), e.path] ∧ wordsE e = [dl, textD e.r e.q, textV (ofF (cntF e.deps)), e.path] := by
  have h1 : lineS e = lineT (wordsE e) := if_pos h
  have h2 : wordsE e = [dl, textD e.r e.q, textV (ofF (cntF e.deps)), e.path] := if_pos k
  exact ⟨by rw [h1, h2], h2⟩
theorem line_one {e : Ev} (h : mayE e) (k : ¬ e.kind = 2) : lineS e = lineT [pt, textD e.r e.q, textV (ofF (cntF e.deps)), e.path, textS e.sum, numS e.size] ∧ wordsE e = [pt, textD e.r e.q, textV (ofF (cntF e.deps)), e.path, textS e.sum, numS e.size] := by
  have h1 : lineS e = lineT (wordsE e) := if_pos h
  have h2 : wordsE e = [pt, textD e.r e.q, textV (ofF (cntF e.deps)), e.path, textS e.sum, numS e.size] := if_neg k
  exact ⟨by rw [h1, h2], h2⟩
theorem bad_two {e : Ev} (h : mayE e) (hf : Fit e) (k : e.kind = 2) : parseEe (pcs 32 (pt ++ (lineS e).extract 3 (lineS e).size)) = 2 ∧ 4 ≤ (lineS e).size := by
  obtain ⟨h1, h2⟩ := line_two h k
  have hw := words_free h hf
  rw [h2] at hw
  rw [h1]
  obtain ⟨g1, g2⟩ := line_word (w := dl) (w' := pt) (ws := [textD e.r e.q, textV (ofF (cntF e.deps)), e.path]) rfl (by simp)
  refine ⟨?_, g2⟩
  rw [g1, pcs_line (by simp) (fun p hp => by
    rw [List.map_cons] at hp
    rcases List.mem_cons.1 hp with rfl | hp
    · decide
    · exact hw p (by rw [List.map_cons]; exact List.mem_cons_of_mem _ hp))]
  unfold parseEe
  exact if_neg fun x => x.elim (fun x => absurd (show pt = dl from x.2.1) (by decide)) fun x => absurd (show (4 : Nat) = 6 from x.1) (by decide)
theorem bad_one {e : Ev} (h : mayE e) (hf : Fit e) (k : ¬ e.kind = 2) : parseEe (pcs 32 (dl ++ (lineS e).extract 3 (lineS e).size)) = 2 ∧ 4 ≤ (lineS e).size := by
  obtain ⟨h1, h2⟩ := line_one h k
  have hw := words_free h hf
  rw [h2] at hw
  rw [h1]
  obtain ⟨g1, g2⟩ := line_word (w := pt) (w' := dl) (ws := [textD e.r e.q, textV (ofF (cntF e.deps)), e.path, textS e.sum, numS e.size]) rfl (by simp)
  refine ⟨?_, g2⟩
  rw [g1, pcs_line (by simp) (fun p hp => by
    rw [List.map_cons] at hp
    rcases List.mem_cons.1 hp with rfl | hp
    · decide
    · exact hw p (by rw [List.map_cons]; exact List.mem_cons_of_mem _ hp))]
  unfold parseEe
  exact if_neg fun x => x.elim (fun x => absurd (show (6 : Nat) = 4 from x.1) (by decide)) fun x => absurd (show dl = pt from x.2.1) (by decide)

section
variable [Globs]

set_option maxHeartbeats 4000000 in
set_option maxRecDepth 10000 in
theorem bad_event (hG : NumG) (e : Ev) (at' : Int) (he : Fit e) (h0 : 0 ≤ at' ∧ at' < 256) : ACalls Tryz.prog 7 [evV e, int .u8 at'] [] (fun r h => r = .tt ∧ h = []) := by
  have ha := awake_event hG
  have h1 := line_event hG e he
  have hc := lineE_cases e
  have hsz := line_size he
  have hp := fun s hs => parse_event hG s hs
  have hfit := fun s hs => fit_parse (s := s) hs
  have b1 := fun h => bad_end (e := e) h he
  have b2 := fun h => bad_front (e := e) h he
  have b3 := fun h => bad_two (e := e) h he
  have b4 := fun h => bad_one (e := e) h he
  have b5 := fun (s : ByteArray) => bad_cut (e := e) (s := s)
  generalize lineE e = LE at *
  generalize lineS e = LS at *
  refine rcalls Tryz.func7 rfl (by decide) ?_
  refine ⟨[], _, ha, ?_⟩
  rintro r hh ⟨rfl, rfl⟩
  refine ⟨.inl rfl, ?_⟩
  refine ⟨fun c => ?_, fun c => ?_⟩
  · exact ⟨[], [], _, lehN _, .tt, rfl, rfl⟩
  refine ⟨[], _, box_free e, h1.args ⟨vbox e, trivial⟩, ?_⟩
  rintro r hh ⟨rfl, rfl⟩
  refine ⟨.inl rfl, ?_⟩
  refine ⟨fun c1 => ?_, fun c1 => ?_⟩
  · exact ⟨[], [], .tt, lehN _, leTT c1, rfl, rfl⟩
  · have hm : mayE e := by
      rcases hc with hc | hc
      · exact hc.2
      · exact absurd (by rw [hc.1]; decide) (no c1)
    obtain rfl : LE = 0 := Classical.byContradiction (no c1)
    have h4 : 4 ≤ LS.size := by
      by_cases k : e.kind = 2
      · exact (b3 hm k).2
      · exact (b4 hm k).2
    refine ⟨fun c2 => absurd (yes c2) (by omega), fun _ => ?_⟩
    obtain ⟨q0, q1, q2⟩ : 0 ≤ (IntKind.i64.wrap at').tmod (LS.size : Int) ∧ (IntKind.i64.wrap at').tmod (LS.size : Int) < LS.size ∧ ((IntKind.i64.wrap at').tmod (LS.size : Int)).toNat < LS.size := by
      rw [w64 (by omega) (by omega), Int.tmod_eq_emod_of_nonneg h0.1]
      have g1 := Int.emod_nonneg at' (b := (LS.size : Int)) (by omega)
      have g2 := Int.emod_lt_of_pos at' (b := (LS.size : Int)) (by omega)
      omega
    have b1 := b1 hm
    have b2 := b2 hm
    have hp1 := hp (LS.extract 0 ((IntKind.i64.wrap at').tmod (LS.size : Int)).toNat) (by rw [ByteArray.size_extract]; omega)
    have hf1 := hfit (LS.extract 0 ((IntKind.i64.wrap at').tmod (LS.size : Int)).toNat) (by rw [ByteArray.size_extract]; omega)
    have b5 := b5 (LS.extract 0 ((IntKind.i64.wrap at').tmod (LS.size : Int)).toNat) (cut_ne q2)
    have s1 : (⟨#[32]⟩ : ByteArray).size = 1 := rfl
    have hp2 := hp (LS ++ ⟨#[32]⟩) (by rw [ByteArray.size_append]; omega)
    have hp3 := hp ((⟨#[32]⟩ : ByteArray) ++ LS) (by rw [ByteArray.size_append]; omega)
    have hsm := same_event _ e hf1 he
    rw [b1] at hp2
    rw [b2] at hp3
    have c4 : ∀ n : Nat, (LS.extract n LS.size).size ≤ LS.size := fun n => by rw [ByteArray.size_extract]; omega
    refine ⟨by omega, ⟨q0, by omega⟩, ?_⟩
    refine ⟨[], _, hp1, ?_⟩
    rintro r hh ⟨rfl, rfl⟩
    refine ⟨.inl rfl, ?_⟩
    refine ⟨by show LS.size + 1 < _; omega, ?_⟩
    refine ⟨[], _, hp2, ?_⟩
    rintro r hh ⟨rfl, rfl⟩
    refine ⟨.inl rfl, ?_⟩
    refine ⟨by show 1 + LS.size < _; omega, ?_⟩
    refine ⟨[], _, hp3, ?_⟩
    rintro r hh ⟨rfl, rfl⟩
    refine ⟨.inl rfl, ?_⟩
    refine ⟨fun k => ?_, fun k => ?_⟩
    · have hp4 := hp (pt ++ LS.extract 3 LS.size) (by have := c4 3; have : pt.size = 3 := rfl; rw [ByteArray.size_append]; omega)
      rw [(b3 hm (yes k)).1] at hp4
      refine ⟨⟨by decide, by omega⟩, by have := c4 3; show 3 + (LS.extract 3 LS.size).size < _; omega, ?_⟩
      refine ⟨[], _, hp4, ?_⟩
      rintro r hh ⟨rfl, rfl⟩
      refine ⟨.inl rfl, ?_⟩
      refine ⟨fun d => ?_, fun d => ?_⟩
      · refine ⟨fun _ => ?_, fun g => absurd rfl (no g)⟩
        refine ⟨fun _ => ?_, fun g => absurd rfl (no g)⟩
        exact ⟨[], [], .tt, lehN _, leTT (decide_eq_true rfl), rfl, rfl⟩
      · have d := Classical.byContradiction (no d)
        have hsm := hsm.not (decide_eq_false (b5 d))
        refine ⟨[], _, box2_free _ _, box_free e, hsm.args ⟨vbox2 _ _, vbox e, trivial⟩, ?_⟩
        rintro r hh ⟨rfl, rfl⟩
        refine ⟨.inl rfl, ?_⟩
        refine ⟨fun _ => ?_, fun g => absurd rfl (no g)⟩
        refine ⟨fun _ => ?_, fun g => absurd rfl (no g)⟩
        exact ⟨[], [], .tt, lehN _, leTT (decide_eq_true rfl), rfl, rfl⟩
    · have hp4 := hp (dl ++ LS.extract 3 LS.size) (by have := c4 3; have : dl.size = 3 := rfl; rw [ByteArray.size_append]; omega)
      rw [(b4 hm (no k)).1] at hp4
      refine ⟨⟨by decide, by omega⟩, by have := c4 3; show 3 + (LS.extract 3 LS.size).size < _; omega, ?_⟩
      refine ⟨[], _, hp4, ?_⟩
      rintro r hh ⟨rfl, rfl⟩
      refine ⟨.inl rfl, ?_⟩
      refine ⟨fun d => ?_, fun d => ?_⟩
      · refine ⟨fun _ => ?_, fun g => absurd rfl (no g)⟩
        refine ⟨fun _ => ?_, fun g => absurd rfl (no g)⟩
        exact ⟨[], [], .tt, lehN _, leTT (decide_eq_true rfl), rfl, rfl⟩
      · have d := Classical.byContradiction (no d)
        have hsm := hsm.not (decide_eq_false (b5 d))
        refine ⟨[], _, box2_free _ _, box_free e, hsm.args ⟨vbox2 _ _, vbox e, trivial⟩, ?_⟩
        rintro r hh ⟨rfl, rfl⟩
        refine ⟨.inl rfl, ?_⟩
        refine ⟨fun _ => ?_, fun g => absurd rfl (no g)⟩
        refine ⟨fun _ => ?_, fun g => absurd rfl (no g)⟩
        exact ⟨[], [], .tt, lehN _, leTT (decide_eq_true rfl), rfl, rfl⟩

end
end Go.Proofs.YthckagkciefliaaGreatDoor.Ev
