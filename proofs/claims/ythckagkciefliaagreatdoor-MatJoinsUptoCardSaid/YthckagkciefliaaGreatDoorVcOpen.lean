/-
  A list of structs of two whole numbers that came in. No program in sight.
-/
import Derived.Test.YthckagkciefliaaGreatDoorFwD
import Derived.Test.YthckagkciefliaaGreatDoorVcA
import Derived.Test.YthckagkciefliaaGreatDoorDtOpen
set_option linter.unusedVariables false
namespace Go.Proofs.YthckagkciefliaaGreatDoor.AL
open Go Go.ChangeShapes Go.WideShapes Go.ChangeAt Go.RowKit Go.Deep Go.Joins Go.WideElems
open Go.Proofs.YthckagkciefliaaGreatDoor.Vc

section
variable {H : Type} {enc : TypeId × Value → H} {P : Program}

def cellI (w : World) (a : Addr) : Int :=
  match w.cell? a with
  | some (.int _ z) => z
  | _ => 0
theorem open_vec {W : World} {base : Nat} {t e : TypeId} {f0 f1 : Field} {v : Value} {d : DataW H} {ps : List MemPlace} (ht : P.underlying t = some (.slice e)) (hs : P.underlying e = some (.struct #[f0, f1])) (hone : oneCellFields P #[f0, f1] = true) (hC : P.cellsOf e = 2)
    (h0 : P.underlying f0.type = some (.int .i64)) (h1 : P.underlying f1.type = some (.int .i64)) (ho : f0.offset = 0 ∧ f1.offset = 1)
    (hval : Value.okWide P W .any base t v) (h : DataW.Trod enc P W 0 (fun _ => true) true t v d ps) (hlt : ∀ x ∈ ps, x.block < W.heap.size) :
    ∃ l : List (Int × Int), (∀ p ∈ l, (Lit.int .i64 p.1).wf = true ∧ (Lit.int .i64 p.2).wf = true) ∧ den W (fun b => b < W.heap.size) .zero (vecV l) v ∧ (d = .nil ∧ l = [] ∨ ∃ ds sp, d = .slice ds sp ∧ ds.length = l.length) := by
  obtain ⟨a1, len, cap, rfl⟩ := okWide_slice ht hval
  obtain ⟨fuel, hf⟩ := h
  rcases DataW.trod_slice ht hf with ⟨hcs, hx⟩ | ⟨a, len', cap', elems, rest, n, _, hcs, hx, hb, hl, hm, hlen, hel, hsp, hns⟩
  · simp [Value.cells] at hcs
    obtain ⟨rfl, rfl, rfl⟩ := hcs
    have hd : d = .nil := by have := (Prod.mk.inj hx).1; exact this
    refine ⟨[], ?_, ⟨none, 0, rfl, Nat.le_refl _, fun i hi => absurd hi (by simp)⟩, .inl ⟨hd, rfl⟩⟩
    intro _ h; cases h
  · simp [Value.cells] at hcs
    obtain ⟨rfl, rfl, rfl⟩ := hcs
    simp only [Prod.mk.injEq] at hx
    obtain ⟨rfl, rfl⟩ := hx
    obtain ⟨k0, g0⟩ := hone_of hone 0 f0 rfl
    obtain ⟨k1, g1⟩ := hone_of hone 1 f1 rfl
    rw [hC] at hel
    have cell01 : ∀ i, i < len → ∃ A B, W.cell? ((a.add (i * 2)).add 0) = some (.int .i64 A) ∧ W.cell? ((a.add (i * 2)).add 1) = some (.int .i64 B) ∧ (Lit.int .i64 A).wf = true ∧ (Lit.int .i64 B).wf = true := fun i hi => by
      have h2 := hel i hi
      rw [List.getElem?_eq_getElem (by omega), Option.bind_eq_some_iff] at h2
      obtain ⟨cs, hc, hy⟩ := h2
      obtain ⟨y0, y1, m, _, _, e0, e1⟩ := trod_struct2 hs hy
      obtain ⟨_, hlen2, hcell⟩ := World.cells?_some hc
      rw [k0, g0] at e0
      rw [k1, g1] at e1
      obtain ⟨A, q0, _, w0⟩ := DataW.trod_int h0 e0
      obtain ⟨B, q1, _, w1⟩ := DataW.trod_int h1 e1
      refine ⟨A, B, ?_, ?_, w0, w1⟩
      · rw [hcell 0 (by omega)]
        have := congrArg (fun l : List Value => l[0]?) q0
        simpa using this
      · rw [hcell 1 (by omega)]
        have := congrArg (fun l : List Value => l[0]?) q1
        simpa using this
    obtain ⟨ab, ao, spot⟩ := a
    have hnone : 0 < len → spot = none := fun hpos => by
      obtain ⟨A, B, q0, _⟩ := cell01 0 hpos
      simpa [Addr.add] using World.cell?_spot q0
    have each : ∀ i, i < len → spot = none ∧ ∃ A B, W.cell? ⟨ab, ao + (i * 2 + 0), none⟩ = some (.int .i64 A) ∧ W.cell? ⟨ab, ao + (i * 2 + 1), none⟩ = some (.int .i64 B) ∧ (Lit.int .i64 A).wf = true ∧ (Lit.int .i64 B).wf = true := fun i hi => by
      have hsp0 := hnone (by omega)
      subst hsp0
      obtain ⟨A, B, q0, q1, w0, w1⟩ := cell01 i hi
      rw [Addr.add_lit, Addr.add_lit] at q0 q1
      exact ⟨rfl, A, B, by rw [← q0, Nat.add_assoc], by rw [← q1, Nat.add_assoc], w0, w1⟩
    let L : List (Int × Int) := (List.range len).map fun i => (cellI W ⟨ab, ao + (i * 2 + 0), none⟩, cellI W ⟨ab, ao + (i * 2 + 1), none⟩)
    have hL : L.length = len := by simp [L]
    have hget : ∀ i, i < len → L.getD i (0, 0) = (cellI W ⟨ab, ao + (i * 2 + 0), none⟩, cellI W ⟨ab, ao + (i * 2 + 1), none⟩) := fun i hi => by
      simp [L, List.getD_eq_getElem?_getD, hi]
    refine ⟨L, fun p hp => ?_, ⟨some ⟨ab, ao, spot⟩, cap, by rw [hL], by omega, fun i hi => ?_⟩, .inr ⟨_, _, rfl, by simp [hL, hlen]⟩⟩
    · obtain ⟨i, hi, rfl⟩ := List.mem_map.1 hp
      obtain ⟨_, A, B, q0, q1, w0, w1⟩ := each i (List.mem_range.1 hi)
      simp only [cellI, q0, q1]
      exact ⟨w0, w1⟩
    · rw [hL] at hi
      obtain ⟨rfl, A, B, q0, q1, w0, w1⟩ := each (i / 2) (by omega)
      refine ⟨_, ⟨ab, ao, rfl, ?_, ?_⟩, rfl⟩
      · refine hlt (.cell ab (ao + i)) (List.mem_append_left _ ?_)
        simp only [MemPlace.row, List.mem_map, List.mem_range]
        exact ⟨i, by rw [hC, hlen]; omega, rfl⟩
      · rcases Nat.mod_two_eq_zero_or_one i with hm2 | hm2
        · have ei : i = i / 2 * 2 + 0 := by omega
          have : cellD L i = A := by
            rw [ei, cell_fst, hget _ (by omega)]
            simp only [cellI, q0]
          rw [this, ← q0, ← ei]
        · have ei : i = i / 2 * 2 + 1 := by omega
          have : cellD L i = B := by
            rw [ei, cell_snd, hget _ (by omega)]
            simp only [cellI, q1]
          rw [this, ← q1, ← ei]

/-- How long a list of structs is that came in. -/
theorem vec_len {ts : List TypeId} {ds : List (DataW H)} (hsz : (DataW.weightsEach P ts ds).all (· ≤ reachBytes) = true) {j : Nat} {t e : TypeId} {l : List (Int × Int)} {d : DataW H} (ht : ts[j]? = some t) (hd : ds[j]? = some d)
    (hu : P.underlying t = some (.slice e)) (hb : decide (0 < P.bytesOf e) = true) (h : d = .nil ∧ l = [] ∨ ∃ es sp, d = .slice es sp ∧ es.length = l.length) : l.length ≤ reachBytes := by
  rcases h with ⟨_, rfl⟩ | ⟨es, sp, rfl, hl⟩
  · exact Nat.zero_le _
  · have := sized_slice hsz ht hd hu
    have h3 : (es.length + sp.length) * 1 ≤ (es.length + sp.length) * P.bytesOf e := Nat.mul_le_mul_left _ (of_decide_eq_true hb)
    omega

end
end Go.Proofs.YthckagkciefliaaGreatDoor.AL
