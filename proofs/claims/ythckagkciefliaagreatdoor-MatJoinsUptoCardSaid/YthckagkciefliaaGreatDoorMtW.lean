/-
  The contracts of matrices: cloned rows, rows that are turned, raised, joined, what all know.
-/
import Derived.Test.YthckagkciefliaaGreatDoorMtM
import Derived.Test.YthckagkciefliaaGreatDoorVcParse
import Derived.Test.YthckagkciefliaaGreatDoorVcRef
set_option linter.unusedVariables false
set_option linter.unusedSectionVars false
namespace Go.Proofs.YthckagkciefliaaGreatDoor.Mt
open Go AL Hx Dt Spl Vc

section
variable [Globs]
/-- A matrix, as it may be read. -/
abbrev matV (m : List Vc1) : AV := .ro m.length 1 fun i => vecV (rowM m i)
theorem giveMat {h : List AO} {l : List Nat} {id len n : Nat} {f : Nat → AV} {M : List Vc1} (e : h[id]? = some (.row n f)) (hl : id ∉ l) (hn : M.length ≤ n) (he : len = M.length) (hf : ∀ i, i < M.length → f i = vecV (rowM M i)) :
    LeV h l (.own id 0 len 1) (matV M) := by
  subst he
  exact .giveR _ e hl (by omega) (fun i hi => by rw [Nat.zero_add, hf i (by omega)]; exact .same _ trivial) fun i hi => trivial
theorem giveVec' {h : List AO} {l : List Nat} {id len n : Nat} {f : Nat → AV} {b : Vc1} (e : h[id]? = some (.row n f)) (hl : id ∉ l) (hn : b.length * 2 ≤ n) (he : len = b.length) (hf : ∀ i, i < b.length * 2 → f i = int .i64 (cellD b i)) :
    LeV h l (.own id 0 len 2) (vecV b) := by
  subst he
  exact .giveR _ e hl (by omega) (fun i hi => by rw [Nat.zero_add, hf i (by omega)]; exact leI rfl) fun i hi => trivial
theorem vmat {n : Nat} {f : Nat → AV} {m : List Vc1} (hn : n = m.length) (hf : ∀ i, i < m.length → f i = vecV (rowM m i)) : VLe (.ro n 1 f) (matV m) := by
  subst hn
  exact vro fun i hi => hf i (by omega)

set_option maxHeartbeats 2000000 in
set_option maxRecDepth 10000 in
theorem clone_vec (l : Vc1) (hl : l.length ≤ 1099511627776) : ACalls Tryz.prog 46 [vecV l] [] (fun r h => r = vecV l ∧ h = []) := by
  refine rcalls Tryz.func46 rfl (by decide) ?_
  refine ⟨fun h0 => ?_, ?_⟩
  · have : l = [] := List.eq_nil_of_length_eq_zero (by omega)
    subst this
    exact ⟨[], [], _, lehN _, .nilR 2 _, rfl, rfl⟩
  refine ⟨rfl, fun i hi => absurd hi (Nat.not_lt_zero _), by show (0 + l.length) * 16 ≤ _; omega, fun i hi => rfl, fun i => int .i64 (cellD l i), fun i hi => absurd hi (Nat.not_lt_zero _), fun i hi => by show int .i64 (cellD l (0 + i)) = int .i64 (cellD l i); rw [Nat.zero_add], ?_⟩
  exact ⟨[], [], _, lehN _, giveVec' (n := (0 + l.length) * 2) rfl (by simp) (by omega) (by omega) (fun i hi => rfl), rfl, rfl⟩


set_option maxHeartbeats 2000000 in
set_option maxRecDepth 10000 in
theorem turned_vec (m : List Vc1) (F : FuncId) (ρ : Nat → Vc1) (hm : m.length ≤ 1099511627776)
    (hF : ∀ k : Nat, k < m.length → ACalls Tryz.prog F [int .i64 k, vecV (rowM m ((k : Int).toNat * 1 + 0))] [] (fun r h => r = vecV (ρ k) ∧ h = [])) :
    ACalls Tryz.prog 44 [matV m, .raw (.func (.func F) #[] #[])] [] (fun r h => r = .own 0 0 m.length 1 ∧ h = [.row (m.length * 1) fun i => vecV (ρ i)]) := by
  refine rcalls Tryz.func44 rfl (by decide) ?_
  refine ⟨Nat, fun k => [(1, .raw (.func (.func F) #[] #[])), (5, .own 0 0 k 1), (8, matV m), (9, int .i64 m.length), (10, int .i64 k)], fun k => [.row (k * 1) fun i => vecV (ρ i)], fun k => k ≤ m.length, fun k => m.length - k,
    ⟨0, [0], Nat.zero_le _, lehR (Nat.le_refl _) _, ⟨.raw _, .nil _ _ (by decide), .same _ trivial, leI rfl, leI rfl, trivial⟩⟩, ?_⟩
  intro k hk
  have hk : k ≤ m.length := hk
  refine ⟨fun c => ?_, fun c => ?_⟩
  · have f1 : (k : Int) < m.length := yes c
    have e1 : IntKind.i64.wrap ((k : Int) + 1) = ((k + 1 : Nat) : Int) := by rw [w64 (by omega) (by omega)]; omega
    have hFk := hF k (by omega)
    refine ⟨⟨by omega, f1⟩, ?_⟩
    refine ⟨[], _, hFk, ?_⟩
    rintro r hh ⟨rfl, rfl⟩
    refine ⟨.inl rfl, ?_⟩
    refine ⟨rfl, fun i _ => rfl, Nat.le_refl 1, by show (k + 1) * 24 ≤ _; omega, fun i hi => ?_, fun i => vecV (ρ i), fun i hi => rfl, fun i hi => ?_, ?_⟩
    · obtain rfl : i = 0 := by omega
      rfl
    · obtain rfl : i = 0 := by omega
      show vecV (ρ (k * 1 + 0)) = vecV (ρ k)
      rw [show k * 1 + 0 = k by omega]
    exact ⟨trivial, k + 1, [2], by show k + 1 ≤ m.length; omega, by show m.length - (k + 1) < m.length - k; omega, leh1 rfl (.row _ _ _ _ (Nat.le_refl _) fun i hi => .same _ trivial), ⟨.raw _, leOwn rfl rfl rfl, .same _ trivial, leI rfl, leI e1, trivial⟩⟩
  · have f1 : ¬ (k : Int) < m.length := no c
    obtain rfl : k = m.length := by omega
    exact ⟨[0], _, _, leh1 rfl (.row _ _ _ _ (Nat.le_refl _) fun i hi => .same _ trivial), leOwn rfl rfl rfl, rfl, rfl⟩

/-- A function value over one thing that is only read. -/
abbrev clo1 (F : FuncId) (x : AV) : AV := .clo (.func F) 1 fun i => [x].getD i .top
theorem clo_free (F : FuncId) (n : Nat) (f : Nat → AV) : (clo1 F (.rp n f)).free := fun i hi => by
  obtain rfl : i = 0 := by omega
  exact trivial
set_option maxHeartbeats 2000000 in
set_option maxRecDepth 10000 in
theorem turned_clo (m : List Vc1) (F : FuncId) (b : List Vc1) (ρ : Nat → Vc1) (hm : m.length ≤ 1099511627776)
    (hF : ∀ k : Nat, k < m.length → ACalls Tryz.prog F [int .i64 k, vecV (rowM m ((k : Int).toNat * 1 + 0)), .rp 1 fun _ => matV b] [] (fun r h => r = vecV (ρ k) ∧ h = [])) :
    ACalls Tryz.prog 44 [matV m, clo1 F (.rp 1 fun _ => matV b)] [] (fun r h => r = .own 0 0 m.length 1 ∧ h = [.row (m.length * 1) fun i => vecV (ρ i)]) := by
  refine rcalls Tryz.func44 rfl (by decide) ?_
  refine ⟨Nat, fun k => [(1, clo1 F (.rp 1 fun _ => matV b)), (5, .own 0 0 k 1), (8, matV m), (9, int .i64 m.length), (10, int .i64 k)], fun k => [.row (k * 1) fun i => vecV (ρ i)], fun k => k ≤ m.length, fun k => m.length - k,
    ⟨0, [0], Nat.zero_le _, lehR (Nat.le_refl _) _, ⟨.same _ (clo_free _ _ _), .nil _ _ (by decide), .same _ trivial, leI rfl, leI rfl, trivial⟩⟩, ?_⟩
  intro k hk
  have hk : k ≤ m.length := hk
  refine ⟨fun c => ?_, fun c => ?_⟩
  · have f1 : (k : Int) < m.length := yes c
    have e1 : IntKind.i64.wrap ((k : Int) + 1) = ((k + 1 : Nat) : Int) := by rw [w64 (by omega) (by omega)]; omega
    have hFk := hF k (by omega)
    refine ⟨⟨by omega, f1⟩, ?_⟩
    refine ⟨[], _, hFk, ?_⟩
    rintro r hh ⟨rfl, rfl⟩
    refine ⟨.inl rfl, ?_⟩
    refine ⟨rfl, fun i _ => rfl, Nat.le_refl 1, by show (k + 1) * 24 ≤ _; omega, fun i hi => ?_, fun i => vecV (ρ i), fun i hi => rfl, fun i hi => ?_, ?_⟩
    · obtain rfl : i = 0 := by omega
      rfl
    · obtain rfl : i = 0 := by omega
      show vecV (ρ (k * 1 + 0)) = vecV (ρ k)
      rw [show k * 1 + 0 = k by omega]
    exact ⟨trivial, k + 1, [2], by show k + 1 ≤ m.length; omega, by show m.length - (k + 1) < m.length - k; omega, leh1 rfl (.row _ _ _ _ (Nat.le_refl _) fun i hi => .same _ trivial), ⟨.same _ (clo_free _ _ _), leOwn rfl rfl rfl, .same _ trivial, leI rfl, leI e1, trivial⟩⟩
  · have f1 : ¬ (k : Int) < m.length := no c
    obtain rfl : k = m.length := by omega
    exact ⟨[0], _, _, leh1 rfl (.row _ _ _ _ (Nat.le_refl _) fun i hi => .same _ trivial), leOwn rfl rfl rfl, rfl, rfl⟩

set_option maxHeartbeats 2000000 in
set_option maxRecDepth 10000 in
theorem ownRule (k : Nat) (l : Vc1) (hl : l.length ≤ 1099511627776) : ACalls Tryz.prog 113 [int .i64 k, vecV l] [] (fun r h => r = vecV l ∧ h = []) := by
  refine rcalls Tryz.func113 rfl (by decide) ?_
  refine ⟨[], _, clone_vec l hl, ?_⟩
  rintro r hh ⟨rfl, rfl⟩
  refine ⟨.inl rfl, ?_⟩
  exact ⟨[], [], _, lehN _, .same _ trivial, rfl, rfl⟩

/-- Are a matrix's rows, and it, of a size that a machine may have? -/
def szM (m : List Vc1) : Prop := m.length ≤ 1099511627776 ∧ ∀ i, i < m.length → (rowM m i).length ≤ 1099511627776

set_option maxHeartbeats 2000000 in
set_option maxRecDepth 10000 in
theorem own_prog (m : List Vc1) (hm : szM m) : ACalls Tryz.prog 84 [matV m] [] (fun r h => r = .own 0 0 m.length 1 ∧ h = [.row (m.length * 1) fun i => vecV (rowM m i)]) := by
  have ht := turned_vec m 113 (rowM m) hm.1 fun k hk => by
    have := ownRule k (rowM m k) (hm.2 k hk)
    rwa [show (k : Int).toNat * 1 + 0 = k by omega]
  refine rcalls Tryz.func84 rfl (by decide) ?_
  refine ⟨[], _, ht, ?_⟩
  rintro r hh ⟨rfl, rfl⟩
  refine ⟨.inl rfl, ?_⟩
  exact ⟨[0], _, _, leh1 rfl (.row _ _ _ _ (Nat.le_refl _) fun i hi => .same _ trivial), leOwn rfl rfl rfl, rfl, rfl⟩

set_option maxHeartbeats 2000000 in
set_option maxRecDepth 10000 in
theorem raise_prog (m : List Vc1) (n : Int) (v : Vc1) (hm : szM m) (hv : v.length ≤ 9223372036854775807) : ACalls Tryz.prog 34 [matV m, int .i64 n, vecV v] [] (fun r h => r = matV (raiseM m n v) ∧ h = []) := by
  have hl := raise_len m n v
  have hr := raise_row m n v
  have ho := own_prog m hm
  generalize raiseM m n v = R at *
  refine rcalls Tryz.func34 rfl (by decide) ?_
  refine ⟨[], _, ho, ?_⟩
  rintro r hh ⟨rfl, rfl⟩
  refine ⟨.inl rfl, ?_⟩
  refine ⟨fun c1 => ⟨fun c2 => ?_, fun c2 => ?_⟩, fun c1 => ?_⟩
  · have f1 : 0 ≤ n := yes c1
    have f2 : n < (m.length : Int) := yes c2
    have hoff : addOff 0 n.toNat 1 = n.toNat := by simp [addOff]
    have hj := join_prog (rowM m (addOff 0 n.toNat 1)) v (by rw [hoff]; have := hm.2 n.toNat (by omega); omega) (by omega)
    refine ⟨⟨f1, f2⟩, ?_⟩
    refine ⟨by rw [hoff]; omega, ?_⟩
    refine ⟨[], _, hj, ?_⟩
    rintro r hh ⟨rfl, rfl⟩
    refine ⟨.inl rfl, ?_⟩
    refine ⟨⟨f1, f2⟩, ?_⟩
    refine ⟨by rw [hoff]; omega, fun i => vecV (rowM R i), fun i hi => ?_, ?_⟩
    · show vecV (rowM R i) = if i = addOff 0 n.toNat 1 then _ else vecV (rowM m i)
      rw [hr i, hoff]
      by_cases h : i = n.toNat
      · rw [if_pos h, if_pos ⟨f1, f2, h⟩, h]; rfl
      · rw [if_neg h, if_neg fun c => h c.2.2]
    exact ⟨[], [], _, lehN _, giveMat rfl (by simp) (by omega) hl.symm (fun i hi => rfl), rfl, rfl⟩
  · have f2 : ¬ n < (m.length : Int) := no c2
    exact ⟨[], [], _, lehN _, giveMat rfl (by simp) (by omega) hl.symm (fun i hi => by rw [hr i, if_neg (by omega)]; rfl), rfl, rfl⟩
  · have f1 : ¬ 0 ≤ n := no c1
    exact ⟨[], [], _, lehN _, giveMat rfl (by simp) (by omega) hl.symm (fun i hi => by rw [hr i, if_neg (by omega)]; rfl), rfl, rfl⟩

theorem szM_raise {m : List Vc1} (hm : szM m) (n : Int) (v : Vc1) : szM (raiseM m n v) := by
  refine ⟨by rw [raise_len]; exact hm.1, fun i hi => ?_⟩
  rw [raise_row]
  split
  · have := ofK_len (maxF (cntF (rowM m i)) (cntF v)) 32
    show (ofK _ 32).length ≤ _
    omega
  · exact hm.2 i (by rwa [raise_len] at hi)

def newL (n : Int) : List Vc1 := if n < 1 ∨ n > 32 then [] else List.replicate n.toNat []
theorem newL_row (n : Int) (i : Nat) : rowM (newL n) i = [] := by
  unfold newL rowM
  split
  · simp
  · rw [List.getD_eq_getElem?_getD, List.getElem?_replicate]; split <;> rfl
set_option maxHeartbeats 2000000 in
set_option maxRecDepth 10000 in
theorem new_prog (n : Int) : ACalls Tryz.prog 37 [int .i64 n] [] (fun r h => r = matV (newL n) ∧ h = []) := by
  have hrow := newL_row n
  have hl : newL n = if n < 1 ∨ n > 32 then [] else List.replicate n.toNat [] := rfl
  generalize newL n = R at *
  refine rcalls Tryz.func37 rfl (by decide) ?_
  refine ⟨fun c1 => ?_, fun c1 => ⟨fun c2 => ?_, fun c2 => ?_⟩⟩
  · have f1 := yes c1
    rw [if_pos (by omega)] at hl
    subst hl
    exact ⟨[], [], _, lehN _, .nilR 1 _, rfl, rfl⟩
  · have f2 := yes c2
    rw [if_pos (by omega)] at hl
    subst hl
    exact ⟨[], [], _, lehN _, .nilR 1 _, rfl, rfl⟩
  · have f1 := no c1
    have f2 := no c2
    rw [if_neg (by omega)] at hl
    have hlen : R.length = n.toNat := by rw [hl]; simp
    refine ⟨⟨by omega, Int.le_refl _, by omega, by show n * 24 ≤ _; omega⟩, ?_⟩
    refine ⟨[], [], _, lehN _, ?_, rfl, rfl⟩
    rw [← hlen]
    refine .giveR _ rfl (by simp) (by omega) (fun i hi => ?_) fun i hi => trivial
    rw [hrow]
    show LeV _ _ (.raw (#[Value.slice none 0 0][(0 + i) % 1]!)) _
    rw [Nat.mod_one]
    exact .nilR 2 _

set_option maxHeartbeats 2000000 in
set_option maxRecDepth 10000 in
theorem low_prog (m : List Vc1) (hm : szM m) : ACalls Tryz.prog 36 [matV m] [] (fun r h => r = vecV (lowM m) ∧ h = []) := by
  by_cases hne : m = []
  · subst hne
    refine rcalls Tryz.func36 rfl (by decide) ?_
    refine ⟨fun _ => ?_, fun e => absurd rfl (no e)⟩
    exact ⟨[], [], _, lehN _, .nilR 2 _, rfl, rfl⟩
  have hpos : 0 < m.length := List.length_pos_iff.2 hne
  have hL : lowM m = lowS m (m.length - 1) := if_neg hne
  rw [hL]
  have h0 := meet_prog (rowM m (Int.toNat 0 * 1 + 0)) (rowM m (Int.toNat 0 * 1 + 0)) (by have := hm.2 0 hpos; show (rowM m 0).length ≤ _; omega) (by have := hm.2 0 hpos; show (rowM m 0).length ≤ _; omega)
  have e0 : ofF (minF (cntF (rowM m (Int.toNat 0 * 1 + 0))) (cntF (rowM m (Int.toNat 0 * 1 + 0)))) = lowS m 0 := rfl
  rw [e0] at h0
  have hS : ∀ k, k + 1 < m.length → ACalls Tryz.prog 87 [vecV (lowS m k), vecV (rowM m (Int.toNat 1 * 1 + ((k : Int).toNat * 1 + 0)))] [] (fun r h => r = vecV (lowS m (k + 1)) ∧ h = []) := fun k hk => by
    have e : Int.toNat 1 * 1 + ((k : Int).toNat * 1 + 0) = k + 1 := by omega
    rw [e]
    exact meet_prog (lowS m k) (rowM m (k + 1)) (lowS_len m k) (by have := hm.2 (k + 1) hk; omega)
  have hlen : m.length ≤ 1099511627776 := hm.1
  generalize lowS m = S at *
  refine rcalls Tryz.func36 rfl (by decide) ?_
  refine ⟨fun c => absurd (yes c) (by omega), fun _ => ?_⟩
  refine .inr ⟨7, by decide +kernel, ?_⟩
  refine ⟨_, rfl, ?_⟩
  refine ⟨_, ⟨⟨by omega, by omega⟩, rfl⟩, ?_⟩
  refine ⟨_, rfl, ?_⟩
  refine ⟨_, rfl, ?_⟩
  refine ⟨_, ⟨⟨by omega, by omega⟩, rfl⟩, ?_⟩
  refine ⟨_, rfl, ?_⟩
  refine ⟨_, ⟨[], _, h0, by rintro r h ⟨rfl, rfl⟩; exact ⟨.inl rfl, rfl, rfl⟩⟩, ?_⟩
  refine ⟨⟨by omega, by omega⟩, ?_⟩
  refine ⟨Nat, fun k => [(3, vecV (S k)), (17, .ro (m.length - 1) 1 fun i => vecV (rowM m (Int.toNat 1 * 1 + i))), (18, int .i64 ((m.length - 1 : Nat) : Int)), (19, int .i64 k)], fun _ => [], fun k => k + 1 ≤ m.length, fun k => m.length - k,
    ⟨0, [], hpos, lehN _, ⟨.same _ trivial, .same _ trivial, leI rfl, leI rfl, trivial⟩⟩, ?_⟩
  intro k hk
  have hk : k + 1 ≤ m.length := hk
  refine ⟨fun c => ?_, fun c => ?_⟩
  · have f1 : (k : Int) < ((m.length - 1 : Nat) : Int) := yes c
    have e1 : IntKind.i64.wrap ((k : Int) + 1) = ((k + 1 : Nat) : Int) := by rw [w64 (by omega) (by omega)]; omega
    refine ⟨⟨by omega, by omega⟩, ?_⟩
    refine ⟨[], _, hS k (by omega), ?_⟩
    rintro r hh ⟨rfl, rfl⟩
    refine ⟨.inl rfl, ?_⟩
    exact ⟨trivial, k + 1, [], by show k + 1 + 1 ≤ m.length; omega, by show m.length - (k + 1) < m.length - k; omega, lehN _, ⟨.same _ trivial, .same _ trivial, leI rfl, leI e1, trivial⟩⟩
  · have f1 : ¬ (k : Int) < ((m.length - 1 : Nat) : Int) := no c
    obtain rfl : k = m.length - 1 := by omega
    exact ⟨[], [], _, lehN _, .same _ trivial, rfl, rfl⟩

end
end Go.Proofs.YthckagkciefliaaGreatDoor.Mt
