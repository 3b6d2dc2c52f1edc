/-
  The closing of a law's row: every argument reads as it did, the answer is true.
-/
import Derived.Test.YtmohncaoimeneaaDoorAlUse
import Derived.ProofKit
import Derived.SizedLaws
import Derived.OpenShut
set_option linter.unusedVariables false
namespace Go.Proofs.YtmohncaoimeneaaDoor.AL
open Go Go.ChangeShapes Go.WideShapes Go.ChangeAt Go.RowKit

section
variable {H : Type} {enc : TypeId × Value → H} {P : Program}

theorem trodAll_stays {W W' : World} {sp : Nat → Bool} (hl : laidOutB P = true) (hB : Below W.heap.size W W') : ∀ {ts : List TypeId} {vs : List Value} {ds : List (DataW H)} {p : List MemPlace},
    (∀ t ∈ ts, P.readableRec t = true ∧ t < P.types.size) → DataW.TrodAll enc P W 0 (fun _ => true) true ts vs ds p → (∀ x ∈ p, x.block < W.heap.size) → (∀ x ∈ p, sp x.block = true) →
    DataW.TrodAll enc P W' 0 sp true ts vs ds p
  | [], _, _, _, _, h, _, _ => by
    obtain ⟨rfl, rfl, rfl⟩ := trodAll_nil h
    exact h
  | t :: ts, _, _, _, hr, h, hlt, hs => by
    obtain ⟨v, vs1, d, ds1, a, b, rfl, rfl, rfl, h1, h2⟩ := trodAll_cons h
    exact ⟨a, b, WideElems.Trod_stays hl (hr t (List.mem_cons_self ..)).1 (hr t (List.mem_cons_self ..)).2 h1 (fun x hx => hB.same (hlt x (List.mem_append_left _ hx))) (fun x hx => hs x (List.mem_append_left _ hx)),
      trodAll_stays hl hB (fun u hu => hr u (List.mem_cons_of_mem _ hu)) h2 (fun x hx => hlt x (List.mem_append_right _ hx)) (fun x hx => hs x (List.mem_append_right _ hx)), rfl⟩

theorem law_post {f : Func} {s : ChangeSpec} {apart fresh handsOn again : Bool} {W W' : World} {args : Array Value} {ds gs : List (DataW H)} {before : List MemPlace} {t : TypeId}
    (hl : laidOutB P = true) (hp : ∀ t ∈ f.params.toList, P.readableRec t = true ∧ t < P.types.size) (ht : f.resultTypes = #[t]) (hb : P.underlying t = some .bool)
    (hvars : s.vars = []) (hfn : s.fn H (ds ++ gs) = { results := [.lit (.bool true)], args := ds })
    (hW : DataW.Whole enc P f.params.toList s.vars apart W args.toList ds gs before) (hB : Below W.heap.size W W') : s.post enc P f apart fresh handsOn again W args (.bool true) W' := by
  have hW0 := hW
  have hlt : ∀ x ∈ before, x.block < W.heap.size := fun x hx => hW.lt x hx
  obtain ⟨p, q, hA, hV, rfl, hz, hn⟩ := hW
  rw [hvars] at hV
  obtain ⟨rfl, rfl⟩ := trodVars_none hV
  have hps : p ++ ([] : List MemPlace) = p := List.append_nil _
  have hres : ∀ (b : Nat) (sp : Nat → Bool) (hd : Bool), DataW.TrodAll enc P W' b sp hd f.resultTypes.toList ((Value.bool true).resultList f.resultTypes.size) (s.fn H (ds ++ [])).results [] := fun b sp hd => by
    rw [hfn, ht]; exact trodAll_mk1 (shut_bool hb true)
  have hargs : ∀ sp : Nat → Bool, (∀ x ∈ p, sp x.block = true) → DataW.TrodAll enc P W' 0 sp true f.params.toList args.toList (s.fn H (ds ++ [])).args p := fun sp hs => by
    rw [hfn]; exact trodAll_stays hl hB hp hA (fun x hx => hlt x (by simpa using hx)) hs
  have hv : ∀ sp : Nat → Bool, DataW.TrodVars enc P W' sp s.vars (s.fn H (ds ++ [])).vars [] := fun sp => by
    rw [hfn, hvars]; rfl
  refine ⟨ds, [], _, [], p, [], hW0, hres _ _ _, hargs _ (fun x hx => by simpa using hlt x (by simpa using hx)), hv _, hB.frame _, fun _ => ?_⟩
  refine ⟨?_, _, _, ([] ++ p) ++ [], ⟨[] ++ p, [], trodAll_append (hargs _ (fun _ _ => rfl)) (hres _ _ _), hv _, rfl, ?_, ?_⟩, ?_⟩
  · rw [ht]
    intro j t' r h1 h2
    cases j with
    | zero =>
      simp [Value.resultList] at h1 h2
      subst h1; subst h2
      simp [Value.okWide, hb, Cell.okWide, Cell.ok]
    | succ j => simp at h1
  · intro b off hx
    rw [hB.frozen (hlt (.cell b off) (by simpa using hx))]
    exact hz b off (by simpa using hx)
  · intro ha
    have := hn ha
    simpa using this
  · intro x hx _
    simpa using hx

theorem open_roI {W : World} {base : Nat} {t e : TypeId} {k : IntKind} {v : Value} {d : DataW H} {ps : List MemPlace} (ht : P.underlying t = some (.slice e)) (he : P.underlying e = some (.int k)) (hc : P.cellsOf e = 1)
    (hval : Value.okWide P W .any base t v) (h : DataW.Trod enc P W 0 (fun _ => true) true t v d ps) (hlt : ∀ x ∈ ps, x.block < W.heap.size) :
    ∃ xs : List Int, (∀ x ∈ xs, (Lit.int k x).wf = true) ∧ xs.length ≤ maxLen ∧ den W (fun b => b < W.heap.size) .zero (.roI k xs) v ∧ (d = .nil ∧ xs = [] ∨ ∃ sp, d = .slice (xs.map fun n => .lit (.int k n)) sp) := by
  obtain ⟨a1, len, cap, rfl⟩ := okWide_slice ht hval
  obtain ⟨fuel, hf⟩ := h
  rcases open_ints ht he hc hf with ⟨hcs, hx⟩ | ⟨a, len', cap', zs, hcs, _, hl, hm, hz, hx, hcell, hwz⟩
  · simp [Value.cells] at hcs
    obtain ⟨rfl, rfl, rfl⟩ := hcs
    have hd : d = .nil := by have := (Prod.mk.inj hx).1; exact this
    refine ⟨[], ?_, Nat.zero_le _, ⟨none, 0, rfl, Nat.le_refl _, fun i hi => absurd hi (Nat.not_lt_zero _)⟩, .inl ⟨hd, rfl⟩⟩
    intro _ h; cases h
  · simp [Value.cells] at hcs
    obtain ⟨rfl, rfl, rfl⟩ := hcs
    simp only [Prod.mk.injEq] at hx
    obtain ⟨rfl, rfl⟩ := hx
    simp only [if_true] at hz
    have hlen : (zs.take len).length = len := by simp; omega
    refine ⟨zs.take len, fun x hx => hwz x (List.mem_of_mem_take hx), by omega, ⟨some a, cap, by rw [hlen], by omega, fun i hi => ?_⟩, .inr ⟨_, rfl⟩⟩
    rw [hlen] at hi
    obtain ⟨ab, ao, spot⟩ := a
    have hspot : spot = none := by simpa [Addr.add] using World.cell?_spot (hcell 0 (by omega))
    subst hspot
    have hci := hcell i (by omega)
    rw [Addr.add_lit] at hci
    refine ⟨ab, ao, rfl, ?_, ?_⟩
    · exact hlt (.cell ab (ao + i)) (by simp only [MemPlace.row, List.mem_map, List.mem_range]; exact ⟨i, by omega, rfl⟩)
    · rw [hci]
      have e : (zs.take len).getD i 0 = zs.getD i 0 := by simp [List.getD_eq_getElem?_getD, hi]
      rw [e]

def intAt (cs : Array Value) (i : Nat) : Int :=
  match cs[i]? with
  | some (.int _ z) => z
  | _ => 0
/-- An array of numbers that came in by value. -/
theorem open_ints_array {W : World} {base n : Nat} {t e : TypeId} {k : IntKind} {v : Value} {d : DataW H} {ps : List MemPlace} (ht : P.underlying t = some (.array n e)) (he : P.underlying e = some (.int k)) (hc : P.cellsOf e = 1) (hct : P.cellsOf t = n)
    (hval : Value.okWide P W .any base t v) (h : DataW.Trod enc P W 0 (fun _ => true) true t v d ps) :
    ∃ xs : List Int, v = .agg (xs.map (Value.int k)).toArray ∧ xs.length = n ∧ ∀ x ∈ xs, (Lit.int k x).wf = true := by
  obtain ⟨cs, rfl, hsz⟩ : ∃ cs, v = .agg cs ∧ cs.size = P.cellsOf t := by
    simp only [Value.okWide, ht] at hval
    obtain ⟨cs, h1, h2, _⟩ := hval
    exact ⟨cs, h1, h2⟩
  obtain ⟨fuel, hf⟩ := h
  obtain ⟨ys, m, _, _, _, hl, hel⟩ := DataW.trod_array ht hf
  have each : ∀ i, i < n → ∃ z, cs[i]? = some (.int k z) ∧ (Lit.int k z).wf = true := fun i hi => by
    have h1 := hel i hi
    rw [hc, Nat.mul_one, List.getElem?_eq_getElem (by omega)] at h1
    obtain ⟨z, e1, _, hw⟩ := DataW.trod_int he h1
    refine ⟨z, ?_, hw⟩
    have h2 : (((Value.agg cs).cells.toList.drop i).take 1)[0]? = some (.int k z) := by rw [e1]; rfl
    simpa [Value.cells] using h2
  have hxs : cs = (((List.range n).map (intAt cs)).map (Value.int k)).toArray := by
    apply Array.ext_getElem?
    intro i
    rcases Nat.lt_or_ge i n with hi | hi
    · obtain ⟨z, e1, _⟩ := each i hi
      simp [hi, e1, intAt]
    · rw [Array.getElem?_eq_none (by omega), Array.getElem?_eq_none (by simp; omega)]
  refine ⟨_, congrArg Value.agg hxs, by simp, fun x hx => ?_⟩
  obtain ⟨i, hi, rfl⟩ := List.mem_map.1 hx
  obtain ⟨z, e1, hw⟩ := each i (List.mem_range.1 hi)
  simp only [intAt, e1]
  exact hw

/-- How long a row is that came in. -/
theorem roI_len {ts : List TypeId} {ds : List (DataW H)} (hsz : (DataW.weightsEach P ts ds).all (· ≤ reachBytes) = true) {j : Nat} {t e : TypeId} {k : IntKind} {xs : List Int} {d : DataW H} (ht : ts[j]? = some t) (hd : ds[j]? = some d)
    (hu : P.underlying t = some (.slice e)) (hb : decide (0 < P.bytesOf e) = true) (h : d = .nil ∧ xs = [] ∨ ∃ sp, d = .slice (xs.map fun n => .lit (.int k n)) sp) : xs.length ≤ reachBytes := by
  rcases h with ⟨_, rfl⟩ | ⟨sp, rfl⟩
  · exact Nat.zero_le _
  · have := sized_slice hsz ht hd hu
    have h2 : (xs.map fun n => (DataW.lit (.int k n) : DataW H)).length = xs.length := by simp
    rw [h2] at this
    have h3 : (xs.length + sp.length) * 1 ≤ (xs.length + sp.length) * P.bytesOf e := Nat.mul_le_mul_left _ (of_decide_eq_true hb)
    omega

end
end Go.Proofs.YtmohncaoimeneaaDoor.AL
