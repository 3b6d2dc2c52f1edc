/-
  Lists of vectors, and of rows that are raised, that came in. No program in sight.
-/
import Derived.Test.YthckagkciefliaaGreatDoorFwD
import Derived.Test.YthckagkciefliaaGreatDoorMtOrd
set_option linter.unusedVariables false
namespace Go.Proofs.YthckagkciefliaaGreatDoor.AL
open Go Go.ChangeShapes Go.WideShapes Go.ChangeAt Go.RowKit Go.Deep Go.Joins Go.WideElems
open Go.Proofs.YthckagkciefliaaGreatDoor.Vc Go.Proofs.YthckagkciefliaaGreatDoor.Mt

section
variable {H : Type} {enc : TypeId × Value → H} {P : Program}

theorem vvec_open {l : List (Int × Int)} : VLe (.ro l.length 2 fun i => (fun (p : Int × Int) j => int .i64 (if j = 0 then p.1 else p.2)) (l.getD (i / 2) (0, 0)) (i % 2)) (vecV l) := by
  letI : Globs := ⟨[]⟩
  refine vro fun i hi => ?_
  show int .i64 (if i % 2 = 0 then _ else _) = int .i64 (cellD l i)
  unfold cellD
  by_cases h : i % 2 = 0
  · rw [if_pos h]
  · rw [if_neg h]
/-- One cell, a list of dots. -/
theorem open_vec_cell {W : World} {fuel base : Nat} {sp : Nat → Bool} {hd : Bool} {t e : TypeId} {f0 f1 : Field} {u : Value} {x : DataW H × List MemPlace} (ht : P.underlying t = some (.slice e)) (hs : P.underlying e = some (.struct #[f0, f1])) (hC : P.cellsOf e = 2)
    (h0 : P.underlying f0.type = some (.int .i64)) (h1 : P.underlying f1.type = some (.int .i64)) (c0 : P.cellsOf f0.type = 1) (c1 : P.cellsOf f1.type = 1) (ho : f0.offset = 0 ∧ f1.offset = 1)
    (hf : DataW.trod enc P W base sp hd fuel t [u] = some x) (hlt : ∀ p ∈ x.2, p.block < W.heap.size) :
    ∃ l : List (Int × Int), l.length ≤ maxLen ∧ den W (allB W) .zero (vecV l) u := by
  obtain ⟨L, _, h2, h3, _⟩ := open_list (fun (p : Int × Int) j => int .i64 (if j = 0 then p.1 else p.2)) (0, 0) (fun _ => True) ht hC (by decide) (fun n cs y hy hp => by
    obtain ⟨m0, z0, e0, _⟩ := field_at hs hy hp 0 (f := f0) rfl
    obtain ⟨m1, z1, e1, _⟩ := field_at hs hy hp 1 (f := f1) rfl
    rw [c0, ho.1] at e0
    rw [c1, ho.2] at e1
    obtain ⟨A, q0, _, _⟩ := DataW.trod_int h0 e0
    obtain ⟨B, q1, _, _⟩ := DataW.trod_int h1 e1
    refine ⟨(A, B), trivial, fun j hj v hv => ?_⟩
    match j, hj with
    | 0, _ => exact one_cell q0 hv
    | 1, _ => exact one_cell q1 hv) hf hlt
  exact ⟨L, h2, vvec_open _ _ _ _ h3⟩

theorem open_mat {W : World} {base : Nat} {t e e2 : TypeId} {f0 f1 : Field} {v : Value} {d : DataW H} {ps : List MemPlace} (ht : P.underlying t = some (.slice e)) (he : P.underlying e = some (.slice e2)) (hCe : P.cellsOf e = 1) (hs : P.underlying e2 = some (.struct #[f0, f1])) (hC : P.cellsOf e2 = 2)
    (h0 : P.underlying f0.type = some (.int .i64)) (h1 : P.underlying f1.type = some (.int .i64)) (c0 : P.cellsOf f0.type = 1) (c1 : P.cellsOf f1.type = 1) (ho : f0.offset = 0 ∧ f1.offset = 1)
    (hval : Value.okWide P W .any base t v) (h : DataW.Trod enc P W 0 (fun _ => true) true t v d ps) (hlt : ∀ x ∈ ps, x.block < W.heap.size) :
    ∃ m : List Vc1, (∀ i, i < m.length → (rowM m i).length ≤ maxLen) ∧ den W (allB W) .zero (matV m) v ∧ (d = .nil ∧ m = [] ∨ ∃ es rs, d = .slice es rs ∧ es.length = m.length) := by
  obtain ⟨L, g1, g2, g3⟩ := open_row (fun (l : Vc1) (_ : Nat) => vecV l) ([] : Vc1) (fun l => l.length ≤ maxLen) ht hCe (by decide) (fun n cs y hy hp => by
    rcases DataW.trod_slice he hy with ⟨rfl, _⟩ | ⟨a, len, cap, elems, rest, n', _, rfl, _⟩
    · obtain ⟨l, q1, q2⟩ := open_vec_cell he hs hC h0 h1 c0 c1 ho hy hp
      exact ⟨l, q1, fun j hj v hv => by
        obtain rfl : j = 0 := by omega
        simp at hv; subst hv; exact q2⟩
    · obtain ⟨l, q1, q2⟩ := open_vec_cell he hs hC h0 h1 c0 c1 ho hy hp
      exact ⟨l, q1, fun j hj v hv => by
        obtain rfl : j = 0 := by omega
        simp at hv; subst hv; exact q2⟩) hval h hlt
  refine ⟨L, fun i hi => g1 _ (row_mem hi), ?_, g3⟩
  letI : Globs := ⟨[]⟩
  refine vmat rfl (fun i hi => ?_) _ _ _ _ g2
  show vecV (L.getD (i / 1) []) = vecV (rowM L i)
  rw [Nat.div_one]
  rfl

/-- A list of rows that are raised. -/
theorem open_rs {W : World} {base : Nat} {t e tv e2 : TypeId} {g0 g1 f0 f1 : Field} {v : Value} {d : DataW H} {ps : List MemPlace} (ht : P.underlying t = some (.slice e)) (hse : P.underlying e = some (.struct #[g0, g1])) (hCe : P.cellsOf e = 2)
    (k0 : P.underlying g0.type = some (.int .u8)) (d0 : P.cellsOf g0.type = 1) (hv : P.underlying g1.type = some (.slice e2)) (d1 : P.cellsOf g1.type = 1) (hg : g0.offset = 0 ∧ g1.offset = 1) (hs : P.underlying e2 = some (.struct #[f0, f1])) (hC : P.cellsOf e2 = 2)
    (h0 : P.underlying f0.type = some (.int .i64)) (h1 : P.underlying f1.type = some (.int .i64)) (c0 : P.cellsOf f0.type = 1) (c1 : P.cellsOf f1.type = 1) (ho : f0.offset = 0 ∧ f1.offset = 1)
    (hval : Value.okWide P W .any base t v) (h : DataW.Trod enc P W 0 (fun _ => true) true t v d ps) (hlt : ∀ x ∈ ps, x.block < W.heap.size) :
    ∃ L : List Rs, (∀ p ∈ L, (Lit.int .u8 p.1).wf = true ∧ p.2.length ≤ maxLen) ∧ den W (allB W) .zero (rsV L) v ∧ (d = .nil ∧ L = [] ∨ ∃ es rs, d = .slice es rs ∧ es.length = L.length) := by
  obtain ⟨L, q1, q2, q3⟩ := open_row (fun (p : Rs) j => if j = 0 then int .u8 p.1 else vecV p.2) ((0, []) : Rs) (fun p => (Lit.int .u8 p.1).wf = true ∧ p.2.length ≤ maxLen) ht hCe (by decide) (fun n cs y hy hp => by
    obtain ⟨m0, z0, e0, _⟩ := field_at hse hy hp 0 (f := g0) rfl
    obtain ⟨m1, z1, e1, hp1⟩ := field_at hse hy hp 1 (f := g1) rfl
    rw [d0, hg.1] at e0
    rw [d1, hg.2] at e1
    obtain ⟨A, r0, _, w0⟩ := DataW.trod_int k0 e0
    have one : ∃ u, (cs.drop 1).take 1 = [u] := by
      rcases DataW.trod_slice hv e1 with ⟨hcs, _⟩ | ⟨a, len, cap, elems, rest, n', _, hcs, _⟩
      · exact ⟨_, hcs⟩
      · exact ⟨_, hcs⟩
    obtain ⟨u, hu⟩ := one
    rw [hu] at e1
    obtain ⟨l, g1, g2⟩ := open_vec_cell hv hs hC h0 h1 c0 c1 ho e1 hp1
    refine ⟨(A, l), ⟨w0, g1⟩, fun j hj v hv => ?_⟩
    match j, hj with
    | 0, _ => exact one_cell r0 hv
    | 1, _ => rw [one_cell hu hv]; exact g2) hval h hlt
  exact ⟨L, q1, q2, q3⟩

end
end Go.Proofs.YthckagkciefliaaGreatDoor.AL
