/-
  The contracts of the document's vectors: equal, may, same, join, meet, leq, with.
-/
import Derived.Test.YthckagkciefliaaGreatDoorVcJoin
set_option linter.unusedVariables false
set_option linter.unusedSectionVars false
namespace Go.Proofs.YthckagkciefliaaGreatDoor.Vc
open Go AL Hx Dt

section
variable [Globs]

set_option maxHeartbeats 2000000 in
set_option maxRecDepth 10000 in
theorem equal_ref (l m : List (Int × Int)) (hl : l.length ≤ 9223372036854775807) (hm : m.length ≤ 9223372036854775807) : ACalls Tryz.prog 43 [vecV l, vecV m] [] (fun r h => r = bool (decide (l = m)) ∧ h = []) := by
  refine rcalls Tryz.func43 rfl (by decide) ?_
  refine ⟨fun c => ?_, fun c => ?_⟩
  · have f1 : ¬ (l.length : Int) = m.length := yes c
    exact ⟨[], [], _, lehN _, leFP fun e => f1 (by rw [e]), rfl, rfl⟩
  have f1 : (l.length : Int) = m.length := Classical.not_not.1 (no c)
  refine ⟨Nat, fun k => [(0, vecV l), (1, vecV m), (5, int .i64 k)], fun _ => [], fun k => k ≤ l.length ∧ ∀ i, i < k → cellD l (i * 2 + 0) = cellD m (i * 2 + 0) ∧ cellD l (i * 2 + 1) = cellD m (i * 2 + 1), fun k => l.length - k,
    ⟨0, [], ⟨by omega, by omega⟩, leh0, ⟨.same _ trivial, .same _ trivial, leI rfl, trivial⟩⟩, ?_⟩
  rintro k ⟨hk, hs⟩
  refine ⟨fun c1 => ?_, fun c1 => ?_⟩
  · have f2 : (k : Int) < l.length := yes c1
    have hin : ((k : Int)).toNat = k := by omega
    have e1 : IntKind.i64.wrap ((k : Int) + 1) = ((k + 1 : Nat) : Int) := by rw [w64 (by omega) (by omega)]; omega
    refine .inl ⟨⟨by decide +kernel, by decide +kernel⟩, ?_⟩
    refine ⟨⟨by omega, f2⟩, ?_⟩
    refine ⟨⟨by omega, by omega⟩, ?_⟩
    refine ⟨⟨by decide +kernel, by decide +kernel, by decide +kernel⟩, ?_⟩
    refine ⟨fun c2 => ?_, fun c2 => ?_⟩
    · have g2 : (!(leafEq (.int .i64 (cellD l ((k : Int).toNat * 2 + 0))) (.int .i64 (cellD m ((k : Int).toNat * 2 + 0))) && (leafEq (.int .i64 (cellD l ((k : Int).toNat * 2 + 1))) (.int .i64 (cellD m ((k : Int).toNat * 2 + 1))) && true))) = true := c2
      refine ⟨[], [], _, lehN _, leFP fun e => ?_, rfl, rfl⟩
      subst e
      rw [eq2.2 ⟨rfl, rfl⟩] at g2
      cases g2
    · have g2 : (!(leafEq (.int .i64 (cellD l ((k : Int).toNat * 2 + 0))) (.int .i64 (cellD m ((k : Int).toNat * 2 + 0))) && (leafEq (.int .i64 (cellD l ((k : Int).toNat * 2 + 1))) (.int .i64 (cellD m ((k : Int).toNat * 2 + 1))) && true))) = false := c2
      have g3 := eq2.1 (unnot g2)
      rw [hin] at g3
      refine ⟨trivial, k + 1, [], ⟨by omega, fun i hi => ?_⟩, by show l.length - (k + 1) < l.length - k; omega, lehN _, ⟨.same _ trivial, .same _ trivial, leI e1, trivial⟩⟩
      rcases Nat.lt_or_ge i k with h | h
      · exact hs i h
      · rw [show i = k by omega]; exact g3
  · have f2 : ¬ (k : Int) < l.length := no c1
    exact ⟨[], [], _, lehN _, leTP (list_eq (by omega) fun i hi => hs i (by omega)), rfl, rfl⟩

set_option maxHeartbeats 2000000 in
set_option maxRecDepth 10000 in
theorem may_vref (l : List (Int × Int)) (hl : l.length ≤ 9223372036854775807) : ACalls Tryz.prog 80 [vecV l] [] (fun r h => r = bool (decide (l = ofF (cntF l))) ∧ h = []) := by
  have h1 := all_ref l hl
  have h2 := of_ref (cntF l)
  have hk : (ofF (cntF l)).length ≤ 32 := ofK_len _ 32
  have h3 := equal_ref l (ofF (cntF l)) hl (by omega)
  generalize ofF (cntF l) = V at *
  generalize cntF l = g at *
  refine rcalls Tryz.func80 rfl (by decide) ?_
  refine ⟨[], _, h1, ?_⟩
  rintro r hh ⟨rfl, rfl⟩
  refine ⟨.inl rfl, ?_⟩
  refine ⟨[], _, h2, ?_⟩
  rintro r hh ⟨rfl, rfl⟩
  refine ⟨.inl rfl, ?_⟩
  refine ⟨[], _, h3, ?_⟩
  rintro r hh ⟨rfl, rfl⟩
  refine ⟨.inl rfl, ?_⟩
  exact ⟨[], [], _, lehN _, leB rfl, rfl, rfl⟩

set_option maxHeartbeats 2000000 in
set_option maxRecDepth 10000 in
theorem join_ref (a b : List (Int × Int)) (ha : a.length ≤ 9223372036854775807) (hb : b.length ≤ 9223372036854775807) : ACalls Tryz.prog 48 [vecV a, vecV b] [] (fun r h => r = vecV (ofF (maxF (cntF a) (cntF b))) ∧ h = []) := by
  have h1 := all_ref a ha
  have h2 := all_ref b hb
  rw [← zip_max]
  generalize cntF a = g at *
  generalize cntF b = h at *
  refine rcalls Tryz.func48 rfl (by decide) ?_
  refine ⟨[], _, h1, ?_⟩
  rintro r hh ⟨rfl, rfl⟩
  refine ⟨.inl rfl, ?_⟩
  refine ⟨rfl, ?_⟩
  refine ⟨(tab_len g).symm, by simp, ?_⟩
  refine ⟨[], _, h2, ?_⟩
  rintro r hh ⟨rfl, rfl⟩
  refine ⟨.inl rfl, ?_⟩
  refine ⟨rfl, ?_⟩
  refine ⟨(tab_len h).symm, by simp, ?_⟩
  refine ⟨Nat, fun k => [(5, .ptr 0 0), (6, .ptr 1 0), (7, int .i64 k)], fun k => [.ints .i64 (tab (partF max g h k)), .ints .i64 (tab h)], fun k => k ≤ 32, fun k => 32 - k,
    ⟨0, [0, 1], by omega, leh2 (by decide) rfl rfl (leOint (by rw [part_zero]; exact tab_blk2 g _ (by simp))) (leOint (tab_blk2 h _ (by simp))), ⟨.ptr _ rfl, .ptr _ rfl, leI rfl, trivial⟩⟩, ?_⟩
  intro k hk
  have hk : k ≤ 32 := hk
  refine ⟨fun c => ?_, fun c => ?_⟩
  · have f1 : (k : Int) < 32 := yes c
    have hin : (0 : Int) ≤ k ∧ (k : Int) < 32 := ⟨by omega, f1⟩
    have e1 : IntKind.i64.wrap ((k : Int) + 1) = ((k + 1 : Nat) : Int) := by rw [w64 (by omega) (by omega)]; omega
    refine .inr ⟨9, by decide +kernel, ?_⟩
    refine ⟨_, rfl, ?_⟩
    refine ⟨_, rfl, ?_⟩
    refine ⟨_, ⟨hin, rfl⟩, ?_⟩
    refine ⟨_, ⟨off_lt' _ (by omega), rfl⟩, ?_⟩
    refine ⟨_, rfl, ?_⟩
    refine ⟨_, ⟨hin, rfl⟩, ?_⟩
    refine ⟨_, ⟨off_lt' _ (by omega), rfl⟩, ?_⟩
    refine ⟨_, rfl, ?_⟩
    refine ⟨_, ⟨hin, rfl⟩, ?_⟩
    refine ⟨off_lt' _ (by omega), ?_⟩
    exact ⟨trivial, k + 1, [0, 1], by show k + 1 ≤ 32; omega, by show 32 - (k + 1) < 32 - k; omega, leh2 (by decide) rfl rfl (leOint (part_set (by omega))) (leOint rfl), ⟨.ptr _ rfl, .ptr _ rfl, leI e1, trivial⟩⟩
  · have f1 : ¬ (k : Int) < 32 := no c
    obtain rfl : k = 32 := by omega
    refine ⟨by rw [tab_len]; decide, ?_⟩
    refine ⟨[], _, (of_ref (zipF max g h)).args ⟨vcnt ((tab_part _).trans (part_all max g h)), trivial⟩, ?_⟩
    rintro r hh ⟨rfl, rfl⟩
    refine ⟨.inl rfl, ?_⟩
    exact ⟨[], [], _, lehN _, .same _ trivial, rfl, rfl⟩

set_option maxHeartbeats 2000000 in
set_option maxRecDepth 10000 in
theorem leq_ref (a b : List (Int × Int)) (ha : a.length ≤ 9223372036854775807) (hb : b.length ≤ 9223372036854775807) : ACalls Tryz.prog 74 [vecV a, vecV b] [] (fun r h => r = bool (decide (leqV (cntF a) (cntF b))) ∧ h = []) := by
  have h1 := all_ref a ha
  have h2 := all_ref b hb
  generalize cntF a = g at *
  generalize cntF b = h at *
  refine rcalls Tryz.func74 rfl (by decide) ?_
  refine ⟨[], _, h1, ?_⟩
  rintro r hh ⟨rfl, rfl⟩
  refine ⟨.inl rfl, ?_⟩
  refine ⟨rfl, ?_⟩
  refine ⟨(tab_len g).symm, by simp, ?_⟩
  refine ⟨[], _, h2, ?_⟩
  rintro r hh ⟨rfl, rfl⟩
  refine ⟨.inl rfl, ?_⟩
  refine ⟨rfl, ?_⟩
  refine ⟨(tab_len h).symm, by simp, ?_⟩
  refine ⟨Nat, fun k => [(5, .ptr 0 0), (6, .ptr 1 0), (7, int .i64 k)], fun k => [.ints .i64 (tab g), .ints .i64 (tab h)], fun k => k ≤ 32 ∧ ∀ r, r < k → g r ≤ h r, fun k => 32 - k,
    ⟨0, [0, 1], ⟨by omega, by omega⟩, leh2 (by decide) rfl rfl (leOint (tab_blk2 g _ (by simp))) (leOint (tab_blk2 h _ (by simp))), ⟨.ptr _ rfl, .ptr _ rfl, leI rfl, trivial⟩⟩, ?_⟩
  rintro k ⟨hk, hs⟩
  refine ⟨fun c => ?_, fun c => ?_⟩
  · have f1 : (k : Int) < 32 := yes c
    have hin : (0 : Int) ≤ k ∧ (k : Int) < 32 := ⟨by omega, f1⟩
    have hoff : addOff 0 (k : Int).toNat 1 = k := by simp [addOff]
    have v1 : (tab g).getD (addOff 0 (k : Int).toNat 1) 0 = g k := by rw [hoff, tab_get g (by omega)]
    have v2 : (tab h).getD (addOff 0 (k : Int).toNat 1) 0 = h k := by rw [hoff, tab_get h (by omega)]
    have e1 : IntKind.i64.wrap ((k : Int) + 1) = ((k + 1 : Nat) : Int) := by rw [w64 (by omega) (by omega)]; omega
    refine .inl ⟨⟨by decide +kernel, by decide +kernel⟩, ?_⟩
    refine ⟨hin, ?_⟩
    refine ⟨off_lt' _ (by omega), ?_⟩
    refine ⟨hin, ?_⟩
    refine ⟨off_lt' _ (by omega), ?_⟩
    refine ⟨fun c1 => ?_, fun c1 => ?_⟩
    · have g1 := yes c1
      rw [v1, v2] at g1
      exact ⟨[], [], _, lehN _, leFP fun e => by have := leq_iff.1 e k (by omega); omega, rfl, rfl⟩
    · have g1 := no c1
      rw [v1, v2] at g1
      refine ⟨trivial, k + 1, [0, 1], ⟨by omega, fun r hr => ?_⟩, by show 32 - (k + 1) < 32 - k; omega, leh2 (by decide) rfl rfl (leOint rfl) (leOint rfl), ⟨.ptr _ rfl, .ptr _ rfl, leI e1, trivial⟩⟩
      rcases Nat.lt_or_ge r k with h | h
      · exact hs r h
      · rw [show r = k by omega]; omega
  · have f1 : ¬ (k : Int) < 32 := no c
    exact ⟨[], [], _, lehN _, leTP (leq_iff.2 fun r hr => hs r (by omega)), rfl, rfl⟩

set_option maxHeartbeats 2000000 in
set_option maxRecDepth 10000 in
theorem with_ref (l : List (Int × Int)) (a b : Int) (hl : l.length ≤ 9223372036854775807) : ACalls Tryz.prog 72 [vecV l, dotV a b] [] (fun r h => r = vecV (ofF (updF (cntF l) (a, b))) ∧ h = []) := by
  have h1 := all_ref l hl
  have hm := may_ref a b
  generalize cntF l = g at *
  refine rcalls Tryz.func72 rfl (by decide) ?_
  refine ⟨[], _, h1, ?_⟩
  rintro r hh ⟨rfl, rfl⟩
  refine ⟨.inl rfl, ?_⟩
  refine ⟨rfl, ?_⟩
  refine ⟨(tab_len g).symm, by simp, ?_⟩
  have hblk : List.take 0 (List.replicate 32 (0 : Int)) ++ tab g ++ List.drop (0 + (tab g).length) (List.replicate 32 0) = tab g := tab_blk2 g _ (by simp)
  rw [hblk]
  refine .inl ⟨⟨by decide +kernel, by decide +kernel⟩, ?_⟩
  refine ⟨.bool (decide (mayD a b)), dfree rfl rfl, ACalls.args (hm.mono fun r h ⟨e1, e2⟩ => ⟨.inl e1, e2⟩) ⟨vdot rfl rfl, trivial⟩, ?_⟩
  refine ⟨fun c1 => ?_, fun c1 => ?_⟩
  · have hmay := yes c1
    have hr : 0 ≤ a ∧ a < 32 := by have := hmay.1; have := hmay.2.1; omega
    have hoff : addOff 0 a.toNat 1 = a.toNat := by simp [addOff]
    refine ⟨hr, ?_⟩
    refine ⟨off_lt g hmay, ?_⟩
    refine ⟨fun c2 => ?_, fun c2 => ?_⟩
    · have g2 := yes c2
      refine ⟨hr, ?_⟩
      refine ⟨off_lt g hmay, ?_⟩
      have e : (tab g).set (addOff 0 a.toNat 1) b = tab (updF g (a, b)) := by rw [← upd_set hmay, Int.max_eq_right (Int.le_of_lt g2)]
      rw [e]
      generalize updF g (a, b) = G at *
      refine ⟨by rw [tab_len]; decide, ?_⟩
      refine ⟨[], _, (of_ref G).args ⟨vcnt (tab_part G), trivial⟩, ?_⟩
      rintro r hh ⟨rfl, rfl⟩
      refine ⟨.inl rfl, ?_⟩
      exact ⟨[], [], _, lehN _, .same _ trivial, rfl, rfl⟩
    · have g2 := no c2
      rw [hoff, tab_get g (by omega)] at g2
      have e := upd_low (g := g) (a := a) (b := b) (by omega)
      rw [e]
      refine ⟨by rw [tab_len]; decide, ?_⟩
      refine ⟨[], _, (of_ref g).args ⟨vcnt (tab_part g), trivial⟩, ?_⟩
      rintro r hh ⟨rfl, rfl⟩
      refine ⟨.inl rfl, ?_⟩
      exact ⟨[], [], _, lehN _, .same _ trivial, rfl, rfl⟩
  · have hmay := no c1
    rw [upd_not hmay]
    refine ⟨by rw [tab_len]; decide, ?_⟩
    refine ⟨[], _, (of_ref g).args ⟨vcnt (tab_part g), trivial⟩, ?_⟩
    rintro r hh ⟨rfl, rfl⟩
    refine ⟨.inl rfl, ?_⟩
    exact ⟨[], [], _, lehN _, .same _ trivial, rfl, rfl⟩

end
end Go.Proofs.YthckagkciefliaaGreatDoor.Vc
