/-
  Deeds that came in. No program in sight.
-/
import Derived.Test.YtflclafbieokiaaDkL
import Derived.Test.YtflclafbieokiaaRow
set_option linter.unusedVariables false
set_option linter.unusedSectionVars false
namespace Go.Proofs.Ytflclafbieokiaa.AL
open Go Go.ChangeShapes Go.WideShapes Go.ChangeAt Go.RowKit Go.Deep Go.Joins Go.WideElems
open Go.Proofs.Ytflclafbieokiaa.Dk

section
variable {H : Type} {enc : TypeId × Value → H} {P : Program}

structure DeT (P : Program) (t e : TypeId) (f0 f1 f2 f3 f4 f5 : Field) : Prop where
  s : P.underlying t = some (.struct #[f0, f1, f2, f3, f4, f5])
  c : P.cellsOf t = 6
  off : f0.offset = 0 ∧ f1.offset = 1 ∧ f2.offset = 2 ∧ f3.offset = 3 ∧ f4.offset = 4 ∧ f5.offset = 5
  kind : P.underlying f0.type = some (.int .i64)
  ckind : P.cellsOf f0.type = 1
  a : P.underlying f1.type = some (.int .i64)
  ca : P.cellsOf f1.type = 1
  b : P.underlying f2.type = some (.int .i64)
  cb : P.cellsOf f2.type = 1
  name : P.underlying f3.type = some .string
  cname : P.cellsOf f3.type = 1
  to : P.underlying f4.type = some .string
  cto : P.cellsOf f4.type = 1
  data : P.underlying f5.type = some (.slice e)
  cdata : P.cellsOf f5.type = 1
  byte : P.underlying e = some (.int .u8)
  cbyte : P.cellsOf e = 1
structure Fs6 where
  f0 : Field
  f1 : Field
  f2 : Field
  f3 : Field
  f4 : Field
  f5 : Field
theorem deT : ∃ F : Fs6, DeT Try.prog 31 5 F.f0 F.f1 F.f2 F.f3 F.f4 F.f5 :=
  ⟨⟨_, _, _, _, _, _⟩, { s := Try.underlying31, c := (by kernel_rfl), off := ⟨rfl, rfl, rfl, rfl, rfl, rfl⟩, kind := (by kernel_rfl), ckind := (by kernel_rfl), a := (by kernel_rfl), ca := (by kernel_rfl), b := (by kernel_rfl), cb := (by kernel_rfl), name := (by kernel_rfl), cname := (by kernel_rfl), to := (by kernel_rfl), cto := (by kernel_rfl), data := (by kernel_rfl), cdata := (by kernel_rfl), byte := (by kernel_rfl), cbyte := (by kernel_rfl) }⟩

theorem ro_intsD {w : World} {S : Nat → Prop} {L : Loc} {xs : List Int} {f : Nat → AV} {v : Value} (h : den w S L (.ro xs.length 1 f) v) (hf : ∀ i, i < xs.length → f i = int .u8 (xs.getD i 0)) : den w S L (.roI .u8 xs) v := by
  obtain ⟨A, cap, e, hc, hd⟩ := h
  refine ⟨A, cap, e, hc, fun i hi => ?_⟩
  obtain ⟨u, h1, h2⟩ := hd i (by omega)
  rw [hf i hi] at h2
  obtain rfl := h2
  exact h1

/-- A deed's cells. -/
theorem open_deed_cells {W : World} {n base : Nat} {t e : TypeId} {f0 f1 f2 f3 f4 f5 : Field} {cs : List Value} {y : DataW H × List MemPlace} (T : DeT P t e f0 f1 f2 f3 f4 f5)
    (hf : DataW.trod enc P W base (fun _ => true) true n t cs = some y) (hlt : ∀ p ∈ y.2, p.block < W.heap.size) :
    ∃ f : De6, okB f.data ∧ ∀ j, j < 6 → ∀ v, cs[j]? = some v → den W (allB W) .zero (de6C f j) v := by
  obtain ⟨o0, o1, o2, o3, o4, o5⟩ := T.off
  obtain ⟨m0, z0, e0, _⟩ := field_at T.s hf hlt 0 (f := f0) rfl
  obtain ⟨m1, z1, e1, _⟩ := field_at T.s hf hlt 1 (f := f1) rfl
  obtain ⟨m2, z2, e2, _⟩ := field_at T.s hf hlt 2 (f := f2) rfl
  obtain ⟨m3, z3, e3, _⟩ := field_at T.s hf hlt 3 (f := f3) rfl
  obtain ⟨m4, z4, e4, _⟩ := field_at T.s hf hlt 4 (f := f4) rfl
  obtain ⟨m5, z5, e5, l5⟩ := field_at T.s hf hlt 5 (f := f5) rfl
  rw [o0, T.ckind] at e0
  rw [o1, T.ca] at e1
  rw [o2, T.cb] at e2
  rw [o3, T.cname] at e3
  rw [o4, T.cto] at e4
  rw [o5, T.cdata] at e5
  obtain ⟨k, q0, _, _⟩ := DataW.trod_int T.kind e0
  obtain ⟨a, q1, _, _⟩ := DataW.trod_int T.a e1
  obtain ⟨b, q2, _, _⟩ := DataW.trod_int T.b e2
  obtain ⟨s, q3, _, _⟩ := DataW.trod_string T.name e3
  obtain ⟨t, q4, _, _⟩ := DataW.trod_string T.to e4
  have one : ∃ u, (cs.drop 5).take 1 = [u] := by
    rcases DataW.trod_slice T.data e5 with ⟨hcs, _⟩ | ⟨a, len, cap, elems, rest, n', _, hcs, _⟩
    · exact ⟨_, hcs⟩
    · exact ⟨_, hcs⟩
  obtain ⟨u, hu⟩ := one
  rw [hu] at e5
  obtain ⟨D, d1, d2, d3, d4⟩ := open_list (fun (x : Int) (_ : Nat) => int .u8 x) 0 (fun x => 0 ≤ x ∧ x < 256) (c := 1) T.data T.cbyte (by decide) (fun n cs y h hl => by
    obtain ⟨z, e1, _, hw⟩ := DataW.trod_int T.byte h
    refine ⟨z, wf_u8 hw, fun j hj v hv => ?_⟩
    obtain rfl : j = 0 := by omega
    rw [e1] at hv
    cases hv
    rfl) e5 l5
  refine ⟨⟨k, a, b, s, t, D⟩, d1, fun j hj v hv => ?_⟩
  match j, hj with
  | 0, _ => rw [one_cell q0 hv]; rfl
  | 1, _ => rw [one_cell q1 hv]; rfl
  | 2, _ => rw [one_cell q2 hv]; rfl
  | 3, _ => rw [one_cell q3 hv]; rfl
  | 4, _ => rw [one_cell q4 hv]; rfl
  | 5, _ =>
    rw [one_cell hu hv]
    exact ro_intsD d3 fun i hi => by
      show int .u8 (D.getD (i / 1) 0) = _
      rw [Nat.div_one]

/-- Deeds that came in. -/
theorem open_deeds {W : World} {base : Nat} {tv t e : TypeId} {f0 f1 f2 f3 f4 f5 : Field} {v : Value} {d : DataW H} {ps : List MemPlace} (htv : P.underlying tv = some (.slice t)) (T : DeT P t e f0 f1 f2 f3 f4 f5)
    (hval : Value.okWide P W .any base tv v) (h : DataW.Trod enc P W 0 (fun _ => true) true tv v d ps) (hlt : ∀ x ∈ ps, x.block < W.heap.size) :
    ∃ L : List De6, okD6 L ∧ den W (allB W) .zero (.ro L.length 6 (rowG L)) v := by
  obtain ⟨L, h1, h2, _⟩ := open_row de6C d60 (fun f => okB f.data) (c := 6) htv T.c (by decide) (fun n cs y hy hl => open_deed_cells T hy hl) hval h hlt
  exact ⟨L, h1, h2⟩
theorem den_deeds {w : World} {S : Nat → Prop} {L : Loc} {l : List De6} {v : Value} (h : den w S L (.ro l.length 6 (rowG l)) v) : den w S L (de6s l) v := by
  obtain ⟨A, cap, e, hc, hd⟩ := h
  exact ⟨A, cap, e, hc, hd⟩
end
end Go.Proofs.Ytflclafbieokiaa.AL
