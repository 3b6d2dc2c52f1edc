/-
  The contracts of a vector's counts, and of the counts' vector: the program's and the document's.
-/
import Derived.Test.YthckagkciefliaaGreatDoorVcA
import Derived.Test.YthckagkciefliaaGreatDoorDtCmp
set_option linter.unusedVariables false
set_option linter.unusedSectionVars false
namespace Go.Proofs.YthckagkciefliaaGreatDoor.Vc
open Go AL Hx Dt

section
variable [Globs]
set_option maxHeartbeats 2000000 in
set_option maxRecDepth 10000 in
theorem counted_prog (l : List (Int × Int)) (hl : l.length ≤ 9223372036854775807) : ACalls Tryz.prog 85 [vecV l] [] (fun r h => r = cntV (cntF l) ∧ h = []) := by
  refine rcalls Tryz.func85 rfl (by decide) ?_
  refine ⟨rfl, ?_⟩
  refine ⟨rfl, ?_⟩
  refine ⟨Nat, fun k => [(2, .ptr 0 0), (3, .ptr 1 0), (6, vecV l), (7, int .i64 l.length), (8, int .i64 k)], fun k => [.ints .i64 (List.replicate 32 0), .ints .i64 (tab (cntF (l.take k)))], fun k => k ≤ l.length, fun k => l.length - k,
    ⟨0, [0, 1], Nat.zero_le _, leh2 (by decide) rfl rfl (leOint rfl) (leOint tab_zero.symm), ⟨.ptr _ rfl, .ptr _ rfl, .same _ trivial, leI rfl, leI rfl, trivial⟩⟩, ?_⟩
  intro k hk
  have hk : k ≤ l.length := hk
  refine ⟨fun c => ?_, fun c => ?_⟩
  · have f1 : (k : Int) < l.length := yes c
    refine ⟨⟨by omega, f1⟩, ?_⟩
    have hm := may_prog (cellD l ((k : Int).toNat * 2 + 0)) (cellD l ((k : Int).toNat * 2 + 1))
    have ht := cnt_take (l := l) (k := k) (by omega)
    have e1 : IntKind.i64.wrap ((k : Int) + 1) = ((k + 1 : Nat) : Int) := by rw [w64 (by omega) (by omega)]; omega
    refine ⟨[], _, dfree rfl rfl, hm.args ⟨vdot rfl rfl, trivial⟩, ?_⟩
    rintro r h ⟨rfl, rfl⟩
    refine ⟨.inl rfl, ?_⟩
    refine ⟨fun c1 => ?_, fun c1 => ?_⟩
    · have hmay := yes c1
      have hr : 0 ≤ cellD l ((k : Int).toNat * 2 + 0) ∧ cellD l ((k : Int).toNat * 2 + 0) < 32 := by have := hmay.1; have := hmay.2.1; omega
      refine .inr ⟨10, by decide +kernel, ?_⟩
      refine ⟨_, rfl, ?_⟩
      refine ⟨_, rfl, ?_⟩
      refine ⟨_, rfl, ?_⟩
      refine ⟨_, rfl, ?_⟩
      refine ⟨_, ⟨hr, rfl⟩, ?_⟩
      refine ⟨_, ⟨off_lt _ hmay, rfl⟩, ?_⟩
      refine ⟨_, rfl, ?_⟩
      refine ⟨_, rfl, ?_⟩
      refine ⟨_, rfl, ?_⟩
      refine ⟨_, ⟨hr, rfl⟩, ?_⟩
      refine ⟨off_lt _ hmay, ?_⟩
      exact ⟨trivial, k + 1, [0, 1], by show k + 1 ≤ l.length; omega, by show l.length - (k + 1) < l.length - k; omega, leh2 (by decide) rfl rfl (leOint rfl) (leOint (by rw [ht]; exact upd_set hmay)),
        ⟨.ptr _ rfl, .ptr _ rfl, .same _ trivial, leI rfl, leI e1, trivial⟩⟩
    · have hmay := no c1
      exact ⟨trivial, k + 1, [0, 1], by show k + 1 ≤ l.length; omega, by show l.length - (k + 1) < l.length - k; omega, leh2 (by decide) rfl rfl (leOint rfl) (leOint (by rw [ht, upd_not hmay])),
        ⟨.ptr _ rfl, .ptr _ rfl, .same _ trivial, leI rfl, leI e1, trivial⟩⟩
  · have f1 : ¬ (k : Int) < l.length := no c
    obtain rfl : k = l.length := by omega
    have ht : l.take l.length = l := List.take_of_length_le (Nat.le_refl _)
    refine ⟨by rw [tab_len]; decide, ?_⟩
    refine ⟨by simp [tab_len], by decide, ?_⟩
    refine ⟨by simp [tab_len], ?_⟩
    exact ⟨[], [], _, lehN _, leAggI (by rw [tab_blk _ _ (by simp), ht]), rfl, rfl⟩

set_option maxHeartbeats 2000000 in
set_option maxRecDepth 10000 in
theorem all_ref (l : List (Int × Int)) (hl : l.length ≤ 9223372036854775807) : ACalls Tryz.prog 94 [vecV l] [] (fun r h => r = cntV (cntF l) ∧ h = []) := by
  refine rcalls Tryz.func94 rfl (by decide) ?_
  refine ⟨rfl, ?_⟩
  refine ⟨rfl, ?_⟩
  refine ⟨Nat, fun k => [(0, vecV l), (2, .ptr 0 0), (3, .ptr 1 0), (4, int .i64 k)], fun k => [.ints .i64 (List.replicate 32 0), .ints .i64 (tab (cntF (l.take k)))], fun k => k ≤ l.length, fun k => l.length - k,
    ⟨0, [0, 1], Nat.zero_le _, leh2 (by decide) rfl rfl (leOint rfl) (leOint tab_zero.symm), ⟨.same _ trivial, .ptr _ rfl, .ptr _ rfl, leI rfl, trivial⟩⟩, ?_⟩
  intro k hk
  have hk : k ≤ l.length := hk
  refine ⟨fun c => ?_, fun c => ?_⟩
  · have f1 : (k : Int) < l.length := yes c
    have hin : (0 : Int) ≤ k ∧ (k : Int) < l.length := ⟨by omega, f1⟩
    have hm := may_ref (cellD l ((k : Int).toNat * 2 + 0)) (cellD l ((k : Int).toNat * 2 + 1))
    have ht := cnt_take (l := l) (k := k) (by omega)
    have e1 : IntKind.i64.wrap ((k : Int) + 1) = ((k + 1 : Nat) : Int) := by rw [w64 (by omega) (by omega)]; omega
    have stay : updF (cntF (l.take k)) (cellD l ((k : Int).toNat * 2 + 0), cellD l ((k : Int).toNat * 2 + 1)) = cntF (l.take k) → ∀ {h : List AO}, h[1]? = some (.ints .i64 (tab (cntF (l.take k)))) → h[0]? = some (.ints .i64 (List.replicate 32 0)) →
        LeH 0 h [0, 1] [.ints .i64 (List.replicate 32 0), .ints .i64 (tab (cntF (l.take (k + 1))))] := fun e h g1 g0 => leh2 (by decide) g0 g1 (leOint rfl) (leOint (by rw [ht, e]))
    refine .inl ⟨⟨by decide +kernel, by decide +kernel⟩, ?_⟩
    refine ⟨hin, ?_⟩
    refine ⟨.bool (decide (mayD (cellD l ((k : Int).toNat * 2 + 0)) (cellD l ((k : Int).toNat * 2 + 1)))), dfree rfl rfl, ACalls.args (hm.mono fun r h ⟨e1, e2⟩ => ⟨.inl e1, e2⟩) ⟨vdot rfl rfl, trivial⟩, ?_⟩
    refine ⟨fun c1 => ?_, fun c1 => ?_⟩
    · have hmay := yes c1
      have hr : 0 ≤ cellD l ((k : Int).toNat * 2 + 0) ∧ cellD l ((k : Int).toNat * 2 + 0) < 32 := by have := hmay.1; have := hmay.2.1; omega
      refine ⟨hin, ?_⟩
      refine ⟨hin, ?_⟩
      refine ⟨hr, ?_⟩
      refine ⟨off_lt _ hmay, ?_⟩
      refine ⟨fun c2 => ?_, fun c2 => ?_⟩
      · have hgt : (tab (cntF (l.take k))).getD (addOff 0 (cellD l ((k : Int).toNat * 2 + 0)).toNat 1) 0 < cellD l ((k : Int).toNat * 2 + 1) := yes c2
        refine .inr ⟨11, by decide +kernel, ?_⟩
        refine ⟨_, rfl, ?_⟩
        refine ⟨_, rfl, ?_⟩
        refine ⟨_, ⟨hin, rfl⟩, ?_⟩
        refine ⟨_, rfl, ?_⟩
        refine ⟨_, rfl, ?_⟩
        refine ⟨_, rfl, ?_⟩
        refine ⟨_, rfl, ?_⟩
        refine ⟨_, ⟨hin, rfl⟩, ?_⟩
        refine ⟨_, rfl, ?_⟩
        refine ⟨_, rfl, ?_⟩
        refine ⟨_, ⟨hr, rfl⟩, ?_⟩
        refine ⟨off_lt _ hmay, ?_⟩
        refine ⟨trivial, k + 1, [0, 1], by show k + 1 ≤ l.length; omega, by show l.length - (k + 1) < l.length - k; omega, leh2 (by decide) rfl rfl (leOint rfl) (leOint ?_),
          ⟨.same _ trivial, .ptr _ rfl, .ptr _ rfl, leI e1, trivial⟩⟩
        rw [ht, ← upd_set hmay, Int.max_eq_right (Int.le_of_lt hgt)]
      · have hgt : ¬ (tab (cntF (l.take k))).getD (addOff 0 (cellD l ((k : Int).toNat * 2 + 0)).toNat 1) 0 < cellD l ((k : Int).toNat * 2 + 1) := no c2
        have hr' : (cellD l ((k : Int).toNat * 2 + 0)).toNat < 32 := by omega
        rw [show addOff 0 (cellD l ((k : Int).toNat * 2 + 0)).toNat 1 = (cellD l ((k : Int).toNat * 2 + 0)).toNat by simp [addOff], tab_get _ hr'] at hgt
        exact ⟨trivial, k + 1, [0, 1], by show k + 1 ≤ l.length; omega, by show l.length - (k + 1) < l.length - k; omega, stay (upd_low (by omega)) rfl rfl,
          ⟨.same _ trivial, .ptr _ rfl, .ptr _ rfl, leI e1, trivial⟩⟩
    · have hmay := no c1
      exact ⟨trivial, k + 1, [0, 1], by show k + 1 ≤ l.length; omega, by show l.length - (k + 1) < l.length - k; omega, stay (upd_not hmay) rfl rfl,
        ⟨.same _ trivial, .ptr _ rfl, .ptr _ rfl, leI e1, trivial⟩⟩
  · have f1 : ¬ (k : Int) < l.length := no c
    obtain rfl : k = l.length := by omega
    have ht : l.take l.length = l := List.take_of_length_le (Nat.le_refl _)
    refine ⟨by rw [tab_len]; decide, ?_⟩
    refine ⟨by simp [tab_len], by decide, ?_⟩
    refine ⟨by simp [tab_len], ?_⟩
    exact ⟨[], [], _, lehN _, leAggI (by rw [tab_blk _ _ (by simp), ht]), rfl, rfl⟩

set_option maxHeartbeats 2000000 in
set_option maxRecDepth 10000 in
theorem vector_prog (g : Nat → Int) : ACalls Tryz.prog 86 [cntV g] [] (fun r h => r = vecV (ofF g) ∧ h = []) := by
  refine rcalls Tryz.func86 rfl (by decide) ?_
  refine ⟨(tab_len g).symm, ?_⟩
  refine ⟨by rw [tab_len]; decide, ?_⟩
  refine ⟨Nat, fun k => [(3, .own 0 0 (ofK g k).length 2), (6, cntV g), (7, int .i64 k)], fun k => [.row ((ofK g k).length * 2) fun i => int .i64 (cellD (ofK g k) i)], fun k => k ≤ 32, fun k => 32 - k,
    ⟨0, [1], by omega, lehR (Nat.le_refl _) _, ⟨.nil _ _ (by decide), leAggI (tab_part g), leI rfl, trivial⟩⟩, ?_⟩
  intro k hk
  have hk : k ≤ 32 := hk
  refine ⟨fun c => ?_, fun c => ?_⟩
  · have f1 : (k : Int) < 32 := yes c
    have e1 : IntKind.i64.wrap ((k : Int) + 1) = ((k + 1 : Nat) : Int) := by rw [w64 (by omega) (by omega)]; omega
    have hv : (tab g).getD (k : Int).toNat 0 = g k := by rw [show ((k : Int)).toNat = k by omega, tab_get g (by omega)]
    have hs := ofK_succ g k
    have hln := ofK_len g k
    refine ⟨⟨by omega, f1⟩, by rw [tab_len]; decide, ?_⟩
    refine ⟨fun c1 => ?_, fun c1 => ?_⟩
    · have g1 : 0 < g k := by have := yes c1; rw [hv] at this; exact this
      rw [if_pos g1, ← hv] at hs
      refine ⟨rfl, fun i _ => rfl, Nat.le_refl 2, by show ((ofK g k).length + 1) * 16 ≤ _; omega, fun i hi => two_cells (f := fun i => [int .i64 k, int .i64 ((tab g).getD (k : Int).toNat 0)].getD (0 + i) .top) rfl rfl hi, fun i => int .i64 (cellD (ofK g (k + 1)) i),
        fun i hi => snoc_old hs hi, fun i hi => snoc_new (f := fun i => [int .i64 k, int .i64 ((tab g).getD (k : Int).toNat 0)].getD (0 + i) .top) hs rfl rfl hi, ?_⟩
      have hlen : (ofK g k).length + 1 = (ofK g (k + 1)).length := by rw [hs]; simp
      refine ⟨trivial, k + 1, [2], by show k + 1 ≤ 32; omega, by show 32 - (k + 1) < 32 - k; omega, leh1 rfl ?_, ⟨leOwn rfl rfl hlen, .aggI _ _, leI e1, trivial⟩⟩
      rw [← hlen]; exact .row _ _ _ _ (Nat.le_refl _) fun i hi => leI rfl
    · have g1 : ¬ 0 < g k := by have := no c1; rw [hv] at this; exact this
      rw [if_neg g1] at hs
      exact ⟨trivial, k + 1, [0], by show k + 1 ≤ 32; omega, by show 32 - (k + 1) < 32 - k; omega, leh1 rfl (leVec hs.symm), ⟨leOwn rfl rfl (by rw [hs]), .aggI _ _, leI e1, trivial⟩⟩
  · have f1 : ¬ (k : Int) < 32 := no c
    obtain rfl : k = 32 := by omega
    exact ⟨[], [], _, lehN _, giveVec rfl (by simp) rfl, rfl, rfl⟩

set_option maxHeartbeats 2000000 in
set_option maxRecDepth 10000 in
theorem of_ref (g : Nat → Int) : ACalls Tryz.prog 95 [cntV g] [] (fun r h => r = vecV (ofF g) ∧ h = []) := by
  refine rcalls Tryz.func95 rfl (by decide) ?_
  refine ⟨(tab_len g).symm, ?_⟩
  refine ⟨Nat, fun k => [(1, .ptr 0 0), (3, .own 1 0 (ofK g k).length 2), (4, int .i64 k)], fun k => [.ints .i64 (tab g), .row ((ofK g k).length * 2) fun i => int .i64 (cellD (ofK g k) i)], fun k => k ≤ 32, fun k => 32 - k,
    ⟨0, [0, 1], by omega, leh1R rfl (leOint rfl) (Nat.le_refl _) _, ⟨.ptr _ rfl, .nil _ _ (by decide), leI rfl, trivial⟩⟩, ?_⟩
  intro k hk
  have hk : k ≤ 32 := hk
  refine ⟨fun c => ?_, fun c => ?_⟩
  · have f1 : (k : Int) < 32 := yes c
    have e1 : IntKind.i64.wrap ((k : Int) + 1) = ((k + 1 : Nat) : Int) := by rw [w64 (by omega) (by omega)]; omega
    have hoff : addOff 0 (k : Int).toNat 1 = k := by simp [addOff]
    have hv : (tab g).getD (addOff 0 (k : Int).toNat 1) 0 = g k := by rw [hoff, tab_get g (by omega)]
    have hlt : addOff 0 (k : Int).toNat 1 < (tab g).length := by rw [hoff, tab_len]; omega
    have hs := ofK_succ g k
    have hln := ofK_len g k
    refine ⟨⟨by omega, f1⟩, hlt, ?_⟩
    refine ⟨fun c1 => ?_, fun c1 => ?_⟩
    · have g1 : 0 < g k := by have := yes c1; rw [hv] at this; exact this
      rw [if_pos g1, ← hv] at hs
      refine ⟨⟨by omega, f1⟩, hlt, ?_⟩
      refine ⟨rfl, fun i _ => rfl, Nat.le_refl 2, by show ((ofK g k).length + 1) * 16 ≤ _; omega, fun i hi => two_cells (f := fun i => [int .i64 k, int .i64 ((tab g).getD (addOff 0 (k : Int).toNat 1) 0)].getD (0 + i) .top) rfl rfl hi, fun i => int .i64 (cellD (ofK g (k + 1)) i),
        fun i hi => snoc_old hs hi, fun i hi => snoc_new (f := fun i => [int .i64 k, int .i64 ((tab g).getD (addOff 0 (k : Int).toNat 1) 0)].getD (0 + i) .top) hs rfl rfl hi, ?_⟩
      have hlen : (ofK g k).length + 1 = (ofK g (k + 1)).length := by rw [hs]; simp
      refine ⟨trivial, k + 1, [0, 3], by show k + 1 ≤ 32; omega, by show 32 - (k + 1) < 32 - k; omega, leh2 (by decide) rfl rfl (leOint rfl) ?_, ⟨.ptr _ rfl, leOwn rfl rfl hlen, leI e1, trivial⟩⟩
      rw [← hlen]; exact .row _ _ _ _ (Nat.le_refl _) fun i hi => leI rfl
    · have g1 : ¬ 0 < g k := by have := no c1; rw [hv] at this; exact this
      rw [if_neg g1] at hs
      exact ⟨trivial, k + 1, [0, 1], by show k + 1 ≤ 32; omega, by show 32 - (k + 1) < 32 - k; omega, leh2 (by decide) rfl rfl (leOint rfl) (leVec hs.symm), ⟨.ptr _ rfl, leOwn rfl rfl (by rw [hs]), leI e1, trivial⟩⟩
  · have f1 : ¬ (k : Int) < 32 := no c
    obtain rfl : k = 32 := by omega
    exact ⟨[], [], _, lehN _, giveVec rfl (by simp) rfl, rfl, rfl⟩

end
end Go.Proofs.YthckagkciefliaaGreatDoor.Vc
