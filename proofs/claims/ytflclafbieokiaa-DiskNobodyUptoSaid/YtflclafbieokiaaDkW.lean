/-
  The contracts of the disk's parts.
-/
import Derived.Test.YtflclafbieokiaaDkI
set_option linter.unusedVariables false
set_option linter.unusedSectionVars false
namespace Go.Proofs.Ytflclafbieokiaa.Dk
open Go AL Us

theorem fmV_free (m : FM) {h : List AO} {l : List Nat} : ∀ i, i < (fmV m).length → ((fmV m).getD i mz).1 = ((fmV m).getD i mz).1 ∧ LeV h l ((fmV m).getD i mz).2 ((fmV m).getD i mz).2 := fun i hi => by
  refine ⟨rfl, ?_⟩
  rw [fmV_len] at hi
  rw [fmV_get hi]
  exact .same _ trivial
theorem leMap {h : List AO} {l : List Nat} {x : List (ByteArray × AV)} {m : FM} (e : x = fmV m) : LeO h l (.map x) (.map (fmV m)) := by
  subst e; exact .map _ _ rfl (fmV_free m)
theorem leMapB {h : List AO} {l : List Nat} {m : FM} {bs : List Nat} {c : Nat} : LeO h l (.mapB (fmV m) bs c) (.mapB (fmV m) bs c) := .mapB _ _ _ _ rfl (fmV_free m)
theorem leMapOfB {h : List AO} {l : List Nat} {m : FM} {bs : List Nat} {c : Nat} : LeO h l (.mapB (fmV m) bs c) (.map (fmV m)) := .mapOfB _ _ _ _ rfl (fmV_free m)
/-- One block that was handed over, and one more. -/
theorem lehH2 {h : List AO} {j : Nat} {o0 o1 p0 p1 : AO} (hj : j ≠ 0) (ha : h[0]? = some p0) (hb : h[j]? = some p1) (l0 : LeO h [0, j] p0 o0) (l1 : LeO h [0, j] p1 o1) : LeH 1 h [0, j] [o0, o1] :=
  ⟨rfl, by simp, fun i hi => by
    obtain rfl : i = 0 := by omega
    rfl, List.nodup_cons.2 ⟨by simpa using Ne.symm hj, List.nodup_cons.2 ⟨by simp, .nil⟩⟩, fun i m o' hi ho => by
    match i, hi, ho with
    | 0, hi, ho => cases hi; cases ho; exact .inl ⟨_, ha, l0⟩
    | 1, hi, ho => cases hi; cases ho; exact .inl ⟨_, hb, l1⟩
    | i + 2, hi, ho => simp at hi⟩
theorem lehH1 {h : List AO} {o0 p0 : AO} (ha : h[0]? = some p0) (l0 : LeO h [0] p0 o0) : LeH 1 h [0] [o0] :=
  ⟨rfl, by simp, fun i hi => by
    obtain rfl : i = 0 := by omega
    rfl, List.nodup_cons.2 ⟨by simp, .nil⟩, fun i m o' hi ho => by
    match i, hi, ho with
    | 0, hi, ho => cases hi; cases ho; exact .inl ⟨_, ha, l0⟩
    | i + 1, hi, ho => simp at hi⟩
section
variable [Globs]

set_option maxHeartbeats 1000000 in
set_option maxRecDepth 10000 in
theorem size_prog (m : FM) (hs : sizeF m ≤ 4611686018427387904) : ACalls Try.prog 32 [.mp 0] [.map (fmV m)] (fun r h => r = int .i64 (sizeF m : Nat) ∧ h = [.map (fmV m)]) := by
  refine rcalls Try.func32 rfl (by decide) ?_
  refine fun bs c hl hd => ?_
  rw [fmV_len] at hl
  have h0 := sumS_nil m bs
  have hle := fun seen => sumS_le (seen := seen) m bs
  refine ⟨List Nat, fun seen => [(3, int .i64 (sumS m bs seen : Nat)), (7, .ptr 1 0)], fun seen => [.mapB (fmV m) bs c, .miter 0 c seen], fun _ => True, fun seen => leftS bs seen,
    ⟨[], [0, 1], trivial, lehH2 (by decide) rfl rfl leMapB (.miter _ _ rfl Nat.zero_lt_two), ⟨leI (by rw [h0]; rfl), .ptr 0 rfl, trivial⟩⟩, ?_⟩
  rintro seen -
  refine ⟨rfl, fun i hi hns => ?_, fun hall => ?_⟩
  · rw [fmV_len] at hi
    have hmem : bs.getD i 0 ∈ bs := by rw [List.getD_eq_getElem?_getD, List.getElem?_eq_getElem (by omega)]; exact List.getElem_mem (by omega)
    have hst := sumS_step hd hl hi hns
    have hle := hle (seen ++ [bs.getD i 0])
    have hlt := leftS_step hmem hns
    have hget := fmV_get hi
    have hmi : m.getD i (ByteArray.empty, []) = m[i] := by rw [List.getD_eq_getElem?_getD, List.getElem?_eq_getElem hi]; rfl
    rw [hmi] at hst
    have e1 : IntKind.i64.wrap (((sumS m bs seen : Nat) : Int) + (m[i].2.length : Int)) = ((sumS m bs (seen ++ [bs.getD i 0]) : Nat) : Int) := by rw [hst, w64 (by omega) (by omega)]; omega
    refine ⟨rfl, i, ⟨by rw [fmV_len]; exact hi, List.getLast?_concat⟩, ?_⟩
    rw [hget]
    exact ⟨trivial, seen ++ [bs.getD i 0], [0, 1], trivial, hlt, lehH2 (by decide) rfl rfl leMapB (.miter _ _ rfl Nat.zero_lt_two), ⟨leI e1, .ptr 0 rfl, trivial⟩⟩
  · rw [fmV_len] at hall
    have ha := sumS_all hl hall
    exact ⟨[0], [.map (fmV m)], _, lehH1 rfl leMapOfB, leI (by rw [ha]), rfl, rfl⟩
end
end Go.Proofs.Ytflclafbieokiaa.Dk
