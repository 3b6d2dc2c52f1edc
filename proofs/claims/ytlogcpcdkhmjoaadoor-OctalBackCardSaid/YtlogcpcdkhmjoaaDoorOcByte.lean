/-
  bytes.IndexByte at 0, over what is known of a row of bytes.
-/
import Derived.Test.YtlogcpcdkhmjoaaDoorAlRec
import Derived.Test.YtlogcpcdkhmjoaaDoorProg
import Derived.Test.YtlogcpcdkhmjoaaDoorShelf
import Derived.Shelf.Bytes.SlIndexAt
import Derived.Lib.IndexLaws
import Derived.Shelf.Lays
import Derived.Lib.Strings
import Derived.Lib.Walk
import Derived.WalkKit
import Derived.Lib.BytesEntry
set_option linter.unusedVariables false
namespace Go.Proofs
open Go.Shelf
set_option maxHeartbeats 1000000 in
set_option maxRecDepth 100000 in
/-- bytes.IndexByte at a row that lies nowhere. -/
theorem YtlogcpcdkhmjoaaDoor.Any.bytes_IndexByte_none {P : Program} {ρ : Ren} (L : Lays.n187 P ρ) (c : Nat) (cv : Int) (w : World) :
    Calls P (ρ.f 187) #[.slice none 0 c, .int .u8 cv] w fun e w' => e = .returned (.int .i64 (-1)) ∧ w' = w := by
  have t3 := L.t3; have t5 := L.t5; have t37 := L.t37
  have a3 := L.a3; have a5 := L.a5; have a37 := L.a37
  have mixed := L.mixed; have z3 := L.z3; have v3 := L.v3; have z5 := L.z5; have v5 := L.v5; have z37 := L.z37; have v37 := L.v37
  go_enter L.f187, Body.n187_ntmps ρ
  go_wp2
  rw [run_callFunc_extern L.f255 (by kernel_rfl) (by kernel_rfl) (by kernel_rfl) (e := Extern.BytealgIndexByte.indexByte) (by kernel_rfl), Lib.run_indexByteNil w 0 c cv]
  simp only [Result.andThen]
  rw [Oper.upon_value]
  go_wp2
  go_ret
  exact ⟨rfl, rfl⟩
end Go.Proofs

set_option linter.unusedSectionVars false
namespace Go.Proofs.YtlogcpcdkhmjoaaDoor.Oc
open Go AL
section
variable [Globs]

theorem indexByte_prog (ys : List Int) (hy : ∀ y ∈ ys, 0 ≤ y ∧ y < 256) : ACalls Tryd.prog 31 [.roI .u8 ys, int .u8 0] [] (fun r h => r = int .i64 (Lib.indexByte (Lib.bytesOf ys) 0) ∧ h = []) := by
  refine ⟨⟨_, Tryd.func31, by decide, rfl⟩, fun S0 L w vs hh hS hn hv => ?_⟩
  obtain ⟨v0, h0, A, cap, rfl, hcap, hc⟩ := hv 0 _ rfl
  obtain ⟨v1, h1, e1⟩ := hv 1 _ rfl
  have e1 : v1 = .int .u8 0 := e1
  subst e1
  have hvs : vs = #[.slice A ys.length cap, .int .u8 0] := by
    apply Array.ext_getElem?
    intro i
    match i with
    | 0 => rw [h0]; rfl
    | 1 => rw [h1]; rfl
    | i + 2 => rw [Array.getElem?_eq_none (by rw [hn]; simp)]; simp
  subst hvs
  have fin : ∀ (n : Int), n = Lib.indexByte (Lib.bytesOf ys) 0 → ∀ (e : Ending) (w' : World), e = .returned (.int .i64 n) ∧ w' = w → ∃ v r h' L', e = .returned v ∧ (r = int .i64 (Lib.indexByte (Lib.bytesOf ys) 0) ∧ h' = []) ∧ HRel ⟨w, S0, ([] : List AO).length, L⟩ h' L' w' ∧
      den w' (SS ⟨w, S0, ([] : List AO).length, L⟩ w' h' L') L' r v := by
    rintro n rfl e w' ⟨rfl, rfl⟩
    exact ⟨_, _, [], L, rfl, ⟨rfl, rfl⟩, hh, rfl⟩
  cases A with
  | none =>
    have hy0 : ys = [] := by
      cases ys with
      | nil => rfl
      | cons y r => obtain ⟨b, o, e, _⟩ := hc 0 (by simp); cases e
    subst hy0
    exact (YtlogcpcdkhmjoaaDoor.Any.bytes_IndexByte_none Tryd.lays187 cap 0 w).mono fun e w' he => fin (-1) rfl e w' he
  | some A =>
    rcases ys with _ | ⟨y, r⟩
    · exact (Tryd.bytes_IndexByte_at A _ cap [] 0 w rfl (fun i hi => absurd hi (Nat.not_lt_zero _))).mono fun e w' he => fin _ rfl e w' he
    · refine (Tryd.bytes_IndexByte_at A _ cap (y :: r) 0 w rfl (fun i hi => ?_)).mono fun e w' he => fin _ rfl e w' he
      obtain ⟨b, o, e, _, h2⟩ := hc i hi
      cases e
      rw [Addr.add_mk]
      exact h2

theorem index0_iff {ys : List Int} (hy : ∀ y ∈ ys, 0 ≤ y ∧ y < 256) : 0 ≤ Lib.indexByte (Lib.bytesOf ys) 0 ↔ (0 : Int) ∈ ys := by
  have hget : ∀ i : Nat, (Lib.bytesOf ys)[i]? = some 0 ↔ ys[i]? = some 0 := fun i => by
    unfold Lib.bytesOf
    rw [List.getElem?_map]
    cases h : ys[i]? with
    | none => simp
    | some y =>
      have := hy y (List.mem_of_getElem? h)
      simp only [Option.map_some, Option.some.injEq]
      constructor
      · intro e
        have e2 : (UInt8.ofNat y.toNat).toNat = 0 := by rw [e]; rfl
        simp at e2
        omega
      · rintro rfl; rfl
  constructor
  · intro h
    obtain ⟨o, ho⟩ : ∃ o : Nat, Lib.indexByte (Lib.bytesOf ys) 0 = o := ⟨_, (Int.toNat_of_nonneg h).symm⟩
    exact List.mem_of_getElem? ((hget o).1 (Lib.indexByte_some ho).1)
  · intro h
    obtain ⟨i, hi, e⟩ := List.mem_iff_getElem.1 h
    have hge := Lib.indexByte_ge (Lib.bytesOf ys) 0
    by_cases h1 : Lib.indexByte (Lib.bytesOf ys) 0 = -1
    · exact absurd ((hget i).2 (by rw [List.getElem?_eq_getElem hi, e])) (Lib.indexByte_none h1 i)
    · omega

end

end Go.Proofs.YtlogcpcdkhmjoaaDoor.Oc
