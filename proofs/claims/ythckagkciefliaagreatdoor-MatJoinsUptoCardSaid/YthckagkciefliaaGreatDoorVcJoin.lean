/-
  The contracts of vectors' join and meet, of what a vector knows, and whether two are the same: the program's and the document's.
-/
import Derived.Test.YthckagkciefliaaGreatDoorVcCnt
set_option linter.unusedVariables false
set_option linter.unusedSectionVars false
namespace Go.Proofs.YthckagkciefliaaGreatDoor.Vc
open Go AL Hx Dt

/-- A rule for two numbers, as a function value. -/
def Rule [Globs] (F : FuncId) (m : Int → Int → Int) : Prop := ∀ x y : Int, ACalls Tryz.prog F [int .i64 x, int .i64 y] [] (fun r h => r = int .i64 (m x y) ∧ h = [])
def zipF (m : Int → Int → Int) (g h : Nat → Int) : Nat → Int := fun r => m (g r) (h r)
def partF (m : Int → Int → Int) (g h : Nat → Int) (k : Nat) : Nat → Int := fun r => if r < k then m (g r) (h r) else g r
theorem part_zero (m : Int → Int → Int) (g h : Nat → Int) : partF m g h 0 = g := funext fun r => if_neg (Nat.not_lt_zero _)
theorem part_all (m : Int → Int → Int) (g h : Nat → Int) : tab (partF m g h 32) = tab (zipF m g h) := tab_ext.2 fun r hr => if_pos hr
theorem part_set {m : Int → Int → Int} {g h : Nat → Int} {k : Nat} (hk : k < 32) :
    (tab (partF m g h k)).set (addOff 0 (k : Int).toNat 1) (m ((tab (partF m g h k)).getD (addOff 0 (k : Int).toNat 1) 0) ((tab h).getD (addOff 0 (k : Int).toNat 1) 0)) = tab (partF m g h (k + 1)) := by
  have hoff : addOff 0 (k : Int).toNat 1 = k := by simp [addOff]
  rw [hoff, tab_get _ hk, tab_get _ hk, tab_set _ hk, tab_ext]
  intro r hr
  unfold partF
  by_cases h1 : r = k
  · subst h1; rw [if_pos rfl, if_neg (by omega), if_pos (by omega)]
  · rw [if_neg h1]
    by_cases h2 : r < k
    · rw [if_pos h2, if_pos (by omega)]
    · rw [if_neg h2, if_neg (by omega)]
/-- Does the one know no more? -/
def leqV (g h : Nat → Int) : Prop := tab (maxF g h) = tab h
instance (g h : Nat → Int) : Decidable (leqV g h) := by unfold leqV; exact inferInstance
theorem leq_iff {g h : Nat → Int} : leqV g h ↔ ∀ r, r < 32 → g r ≤ h r := tab_ext.trans (by
  constructor
  · intro e r hr
    have := e r hr; unfold maxF at this; omega
  · intro e r hr
    have := e r hr; unfold maxF; omega)
theorem off_lt' (g : Nat → Int) {k : Nat} (h : k < 32) : addOff 0 (k : Int).toNat 1 < (tab g).length := by rw [tab_len]; simp [addOff]; omega
section
variable [Globs]
theorem vcnt {xs : List Int} {g : Nat → Int} (e : xs = tab g) : VLe (.aggI .i64 xs) (cntV g) := by subst e; exact .refl _
theorem tab_blk2 (g : Nat → Int) (zs : List Int) (hz : zs.length = 32) : List.take 0 zs ++ tab g ++ List.drop (0 + (tab g).length) zs = tab g := by
  rw [List.take_zero, List.nil_append, List.drop_eq_nil_of_le (by rw [tab_len, hz]; decide), List.append_nil]
theorem zip_max (g h : Nat → Int) : zipF max g h = maxF g h := rfl
theorem zip_min (g h : Nat → Int) : zipF min g h = minF g h := rfl
theorem vro {n sz : Nat} {f g : Nat → AV} (h : ∀ i, i < n * sz → f i = g i) : VLe (.ro n sz f) (.ro n sz g) := fun w S L v hv => by
  obtain ⟨A, cap, e, hc, hd⟩ := hv
  refine ⟨A, cap, e, hc, fun i hi => ?_⟩
  obtain ⟨u, h1, h2⟩ := hd i hi
  exact ⟨u, h1, by rw [← h i hi]; exact h2⟩
theorem vro' {n m sz : Nat} {f g : Nat → AV} (e : n = m) (h : ∀ i, i < n * sz → f i = g i) : VLe (.ro n sz f) (.ro m sz g) := by subst e; exact vro h
theorem vvec1 {f : Nat → AV} {a b : Int} (h0 : f 0 = int .i64 a) (h1 : f 1 = int .i64 b) : VLe (.ro 1 2 f) (vecV [(a, b)]) := vro fun i hi => by
  match i, hi with
  | 0, _ => rw [h0]; rfl
  | 1, _ => rw [h1]; rfl

set_option maxRecDepth 10000 in
theorem joinRule : Rule 93 max := fun x y => by
  refine rcalls Tryz.func93 rfl (by decide) ?_
  exact ⟨[], [], _, leh0, leI rfl, rfl, rfl⟩

set_option maxRecDepth 10000 in
theorem meetRule : Rule 114 min := fun x y => by
  refine rcalls Tryz.func114 rfl (by decide) ?_
  exact ⟨[], [], _, leh0, leI rfl, rfl, rfl⟩

set_option maxHeartbeats 2000000 in
set_option maxRecDepth 10000 in
theorem both_prog (a b : List (Int × Int)) (F : FuncId) (m : Int → Int → Int) (hF : Rule F m) (ha : a.length ≤ 9223372036854775807) (hb : b.length ≤ 9223372036854775807) :
    ACalls Tryz.prog 92 [vecV a, vecV b, .raw (.func (.func F) #[] #[])] [] (fun r h => r = vecV (ofF (zipF m (cntF a) (cntF b))) ∧ h = []) := by
  have h1 := counted_prog a ha
  have h2 := counted_prog b hb
  generalize cntF a = g at *
  generalize cntF b = h at *
  refine rcalls Tryz.func92 rfl (by decide) ?_
  refine ⟨[], _, h1, ?_⟩
  rintro r hh ⟨rfl, rfl⟩
  refine ⟨.inl rfl, ?_⟩
  refine ⟨[], _, h2, ?_⟩
  rintro r hh ⟨rfl, rfl⟩
  refine ⟨.inl rfl, ?_⟩
  refine ⟨rfl, ?_⟩
  refine ⟨rfl, ?_⟩
  refine ⟨(tab_len g).symm, by simp, ?_⟩
  refine ⟨(tab_len h).symm, by simp, ?_⟩
  refine ⟨Nat, fun k => [(2, .raw (.func (.func F) #[] #[])), (7, .ptr 0 0), (8, .ptr 1 0), (14, int .i64 k)], fun k => [.ints .i64 (tab (partF m g h k)), .ints .i64 (tab h)], fun k => k ≤ 32, fun k => 32 - k,
    ⟨0, [0, 1], by omega, leh2 (by decide) rfl rfl (leOint (by rw [part_zero]; exact tab_blk2 g _ (by simp))) (leOint (tab_blk2 h _ (by simp))), ⟨.raw _, .ptr _ rfl, .ptr _ rfl, leI rfl, trivial⟩⟩, ?_⟩
  intro k hk
  have hk : k ≤ 32 := hk
  refine ⟨fun c => ?_, fun c => ?_⟩
  · have f1 : (k : Int) < 32 := yes c
    have hin : (0 : Int) ≤ k ∧ (k : Int) < 32 := ⟨by omega, f1⟩
    have e1 : IntKind.i64.wrap ((k : Int) + 1) = ((k + 1 : Nat) : Int) := by rw [w64 (by omega) (by omega)]; omega
    refine .inr ⟨10, by decide +kernel, ?_⟩
    refine ⟨_, rfl, ?_⟩
    refine ⟨_, rfl, ?_⟩
    refine ⟨_, rfl, ?_⟩
    refine ⟨_, ⟨hin, rfl⟩, ?_⟩
    refine ⟨_, ⟨off_lt' _ (by omega), rfl⟩, ?_⟩
    refine ⟨_, rfl, ?_⟩
    refine ⟨_, ⟨hin, rfl⟩, ?_⟩
    refine ⟨_, ⟨off_lt' _ (by omega), rfl⟩, ?_⟩
    refine ⟨_, ⟨[], _, hF _ _, by rintro r h ⟨rfl, rfl⟩; exact ⟨.inl rfl, rfl, rfl⟩⟩, ?_⟩
    refine ⟨_, ⟨hin, rfl⟩, ?_⟩
    refine ⟨off_lt' _ (by omega), ?_⟩
    exact ⟨trivial, k + 1, [0, 1], by show k + 1 ≤ 32; omega, by show 32 - (k + 1) < 32 - k; omega, leh2 (by decide) rfl rfl (leOint (part_set (by omega))) (leOint rfl), ⟨.raw _, .ptr _ rfl, .ptr _ rfl, leI e1, trivial⟩⟩
  · have f1 : ¬ (k : Int) < 32 := no c
    obtain rfl : k = 32 := by omega
    refine ⟨by rw [tab_len]; decide, ?_⟩
    refine ⟨[], _, (vector_prog (zipF m g h)).args ⟨vcnt ((tab_part _).trans (part_all m g h)), trivial⟩, ?_⟩
    rintro r hh ⟨rfl, rfl⟩
    refine ⟨.inl rfl, ?_⟩
    exact ⟨[], [], _, lehN _, .same _ trivial, rfl, rfl⟩

set_option maxHeartbeats 2000000 in
set_option maxRecDepth 10000 in
theorem join_prog (a b : List (Int × Int)) (ha : a.length ≤ 9223372036854775807) (hb : b.length ≤ 9223372036854775807) : ACalls Tryz.prog 47 [vecV a, vecV b] [] (fun r h => r = vecV (ofF (maxF (cntF a) (cntF b))) ∧ h = []) := by
  have hb := both_prog a b _ _ joinRule ha hb
  rw [zip_max] at hb
  generalize ofF (maxF (cntF a) (cntF b)) = V at *
  refine rcalls Tryz.func47 rfl (by decide) ?_
  refine ⟨[], _, hb, ?_⟩
  rintro r hh ⟨rfl, rfl⟩
  refine ⟨.inl rfl, ?_⟩
  exact ⟨[], [], _, lehN _, .same _ trivial, rfl, rfl⟩

set_option maxHeartbeats 2000000 in
set_option maxRecDepth 10000 in
theorem meet_prog (a b : List (Int × Int)) (ha : a.length ≤ 9223372036854775807) (hb : b.length ≤ 9223372036854775807) : ACalls Tryz.prog 87 [vecV a, vecV b] [] (fun r h => r = vecV (ofF (minF (cntF a) (cntF b))) ∧ h = []) := by
  have hb := both_prog a b _ _ meetRule ha hb
  rw [zip_min] at hb
  generalize ofF (minF (cntF a) (cntF b)) = V at *
  refine rcalls Tryz.func87 rfl (by decide) ?_
  refine ⟨[], _, hb, ?_⟩
  rintro r hh ⟨rfl, rfl⟩
  refine ⟨.inl rfl, ?_⟩
  exact ⟨[], [], _, lehN _, .same _ trivial, rfl, rfl⟩

/-- How many of a replica are known. -/
def getV (l : List (Int × Int)) (r : Int) : Int := if r < 0 ∨ r > 31 then 0 else cntF l r.toNat
set_option maxHeartbeats 2000000 in
set_option maxRecDepth 10000 in
theorem get_prog (l : List (Int × Int)) (n : Int) (hl : l.length ≤ 9223372036854775807) : ACalls Tryz.prog 69 [vecV l, int .i64 n] [] (fun r h => r = int .i64 (getV l n) ∧ h = []) := by
  have h1 := counted_prog l hl
  have hg : getV l n = if n < 0 ∨ n > 31 then 0 else cntF l n.toNat := rfl
  generalize getV l n = V at *
  generalize cntF l = g at *
  refine rcalls Tryz.func69 rfl (by decide) ?_
  refine ⟨fun c1 => ?_, fun c1 => ⟨fun c2 => ?_, fun c2 => ?_⟩⟩
  · have := yes c1
    exact ⟨[], [], _, lehN _, leI (by rw [hg, if_pos (by omega)]), rfl, rfl⟩
  · have := yes c2
    exact ⟨[], [], _, lehN _, leI (by rw [hg, if_pos (by omega)]), rfl, rfl⟩
  · have f1 := no c1
    have f2 := no c2
    refine ⟨[], _, h1, ?_⟩
    rintro r hh ⟨rfl, rfl⟩
    refine ⟨.inl rfl, ?_⟩
    refine ⟨⟨by omega, by show n < 32; omega⟩, by rw [tab_len]; decide, ?_⟩
    exact ⟨[], [], _, lehN _, leI (by rw [hg, if_neg (by omega), tab_get g (by omega)]), rfl, rfl⟩

set_option maxHeartbeats 2000000 in
set_option maxRecDepth 10000 in
theorem get_ref (l : List (Int × Int)) (n : Int) (hl : l.length ≤ 9223372036854775807) : ACalls Tryz.prog 71 [vecV l, int .i64 n] [] (fun r h => r = int .i64 (getV l n) ∧ h = []) := by
  have h1 := all_ref l hl
  have hg : getV l n = if n < 0 ∨ n > 31 then 0 else cntF l n.toNat := rfl
  generalize getV l n = V at *
  generalize cntF l = g at *
  refine rcalls Tryz.func71 rfl (by decide) ?_
  refine ⟨fun c1 => ?_, fun c1 => ⟨fun c2 => ?_, fun c2 => ?_⟩⟩
  · have := yes c1
    exact ⟨[], [], _, lehN _, leI (by rw [hg, if_pos (by omega)]), rfl, rfl⟩
  · have := yes c2
    exact ⟨[], [], _, lehN _, leI (by rw [hg, if_pos (by omega)]), rfl, rfl⟩
  · have f1 := no c1
    have f2 := no c2
    refine ⟨[], _, h1, ?_⟩
    rintro r hh ⟨rfl, rfl⟩
    refine ⟨.inl rfl, ?_⟩
    refine ⟨⟨by omega, by show n < 32; omega⟩, by rw [tab_len]; decide, ?_⟩
    exact ⟨[], [], _, lehN _, leI (by rw [hg, if_neg (by omega), tab_get g (by omega)]), rfl, rfl⟩

set_option maxHeartbeats 2000000 in
set_option maxRecDepth 10000 in
theorem has_prog (l : List (Int × Int)) (a b : Int) (hl : l.length ≤ 9223372036854775807) : ACalls Tryz.prog 73 [vecV l, dotV a b] [] (fun r h => r = bool (decide (mayD a b ∧ b ≤ getV l a)) ∧ h = []) := by
  have h1 := may_prog a b
  have h2 := get_prog l a hl
  generalize getV l a = V at *
  refine rcalls Tryz.func73 rfl (by decide) ?_
  refine .inl ⟨⟨by decide +kernel, by decide +kernel⟩, ?_⟩
  refine ⟨.bool (decide (mayD a b)), dfree rfl rfl, ACalls.args (h1.mono fun r h ⟨e1, e2⟩ => ⟨.inl e1, e2⟩) ⟨vdot rfl rfl, trivial⟩, ?_⟩
  refine ⟨fun c1 => ?_, fun c1 => ?_⟩
  · have := yes c1
    refine ⟨.int .i64 V, h2.mono fun r h ⟨e1, e2⟩ => ⟨.inl e1, e2⟩, ?_⟩
    exact ⟨[], [], _, lehN _, leP ⟨fun h => ⟨this, h⟩, fun h => h.2⟩, rfl, rfl⟩
  · have := no c1
    exact ⟨[], [], _, lehN _, leFP fun h => this h.1, rfl, rfl⟩

set_option maxHeartbeats 2000000 in
set_option maxRecDepth 10000 in
theorem has_ref (l : List (Int × Int)) (a b : Int) (hl : l.length ≤ 9223372036854775807) : ACalls Tryz.prog 82 [vecV l, dotV a b] [] (fun r h => r = bool (decide (mayD a b ∧ b ≤ getV l a)) ∧ h = []) := by
  have h1 := may_ref a b
  have h2 := get_ref l a hl
  generalize getV l a = V at *
  refine rcalls Tryz.func82 rfl (by decide) ?_
  refine .inl ⟨⟨by decide +kernel, by decide +kernel⟩, ?_⟩
  refine ⟨.bool (decide (mayD a b)), dfree rfl rfl, ACalls.args (h1.mono fun r h ⟨e1, e2⟩ => ⟨.inl e1, e2⟩) ⟨vdot rfl rfl, trivial⟩, ?_⟩
  refine ⟨fun c1 => ?_, fun c1 => ?_⟩
  · have := yes c1
    refine ⟨.int .i64 V, h2.mono fun r h ⟨e1, e2⟩ => ⟨.inl e1, e2⟩, ?_⟩
    exact ⟨[], [], _, lehN _, leP ⟨fun h => ⟨this, h⟩, fun h => h.2⟩, rfl, rfl⟩
  · have := no c1
    exact ⟨[], [], _, lehN _, leFP fun h => this h.1, rfl, rfl⟩

theorem list_eq {l m : List (Int × Int)} (hl : l.length = m.length) (h : ∀ i, i < l.length → cellD l (i * 2 + 0) = cellD m (i * 2 + 0) ∧ cellD l (i * 2 + 1) = cellD m (i * 2 + 1)) : l = m := by
  apply List.ext_getElem hl
  intro i h1 h2
  have := h i h1
  rw [cell_fst, cell_snd, cell_fst, cell_snd] at this
  rw [List.getD_eq_getElem?_getD, List.getD_eq_getElem?_getD, List.getElem?_eq_getElem h1, List.getElem?_eq_getElem h2] at this
  exact Prod.ext this.1 this.2

set_option maxHeartbeats 2000000 in
set_option maxRecDepth 10000 in
theorem equal_prog (l m : List (Int × Int)) (hl : l.length ≤ 9223372036854775807) (hm : m.length ≤ 9223372036854775807) : ACalls Tryz.prog 75 [vecV l, vecV m] [] (fun r h => r = bool (decide (l = m)) ∧ h = []) := by
  refine rcalls Tryz.func75 rfl (by decide) ?_
  refine ⟨fun c => ?_, fun c => ?_⟩
  · have f1 : ¬ (l.length : Int) = m.length := yes c
    exact ⟨[], [], _, lehN _, leFP fun e => f1 (by rw [e]), rfl, rfl⟩
  have f1 : (l.length : Int) = m.length := Classical.not_not.1 (no c)
  refine ⟨Nat, fun k => [(0, vecV l), (1, vecV m), (12, int .i64 l.length), (13, int .i64 k)], fun _ => [], fun k => k ≤ l.length ∧ ∀ i, i < k → cellD l (i * 2 + 0) = cellD m (i * 2 + 0) ∧ cellD l (i * 2 + 1) = cellD m (i * 2 + 1), fun k => l.length - k,
    ⟨0, [], ⟨by omega, by omega⟩, leh0, ⟨.same _ trivial, .same _ trivial, leI rfl, leI rfl, trivial⟩⟩, ?_⟩
  rintro k ⟨hk, hs⟩
  refine ⟨fun c1 => ?_, fun c1 => ?_⟩
  · have f2 : (k : Int) < l.length := yes c1
    have hin : ((k : Int)).toNat = k := by omega
    have e1 : IntKind.i64.wrap ((k : Int) + 1) = ((k + 1 : Nat) : Int) := by rw [w64 (by omega) (by omega)]; omega
    refine .inl ⟨⟨by decide +kernel, by decide +kernel⟩, ?_⟩
    refine ⟨⟨by omega, f2⟩, ?_⟩
    refine ⟨⟨by omega, by omega⟩, ?_⟩
    refine ⟨⟨by decide +kernel, by decide +kernel, by decide +kernel⟩, ?_⟩
    refine ⟨fun c2 => ?_, fun c2 => ?_⟩
    · have g2 : (!(leafEq (.int .i64 (cellD l ((k : Int).toNat * 2 + 0))) (.int .i64 (cellD m ((k : Int).toNat * 2 + 0))) && (leafEq (.int .i64 (cellD l ((k : Int).toNat * 2 + 1))) (.int .i64 (cellD m ((k : Int).toNat * 2 + 1))) && true))) = true := c2
      refine ⟨[], [], _, lehN _, leFP fun e => ?_, rfl, rfl⟩
      subst e
      rw [eq2.2 ⟨rfl, rfl⟩] at g2
      cases g2
    · have g2 : (!(leafEq (.int .i64 (cellD l ((k : Int).toNat * 2 + 0))) (.int .i64 (cellD m ((k : Int).toNat * 2 + 0))) && (leafEq (.int .i64 (cellD l ((k : Int).toNat * 2 + 1))) (.int .i64 (cellD m ((k : Int).toNat * 2 + 1))) && true))) = false := c2
      have g3 := eq2.1 (unnot g2)
      rw [hin] at g3
      refine ⟨trivial, k + 1, [], ⟨by omega, fun i hi => ?_⟩, by show l.length - (k + 1) < l.length - k; omega, lehN _, ⟨.same _ trivial, .same _ trivial, leI rfl, leI e1, trivial⟩⟩
      rcases Nat.lt_or_ge i k with h | h
      · exact hs i h
      · rw [show i = k by omega]; exact g3
  · have f2 : ¬ (k : Int) < l.length := no c1
    exact ⟨[], [], _, lehN _, leTP (list_eq (by omega) fun i hi => hs i (by omega)), rfl, rfl⟩

set_option maxHeartbeats 2000000 in
set_option maxRecDepth 10000 in
theorem may_vec (l : List (Int × Int)) (hl : l.length ≤ 9223372036854775807) : ACalls Tryz.prog 68 [vecV l] [] (fun r h => r = bool (decide (l = ofF (cntF l))) ∧ h = []) := by
  have h1 := counted_prog l hl
  have h2 := vector_prog (cntF l)
  have hk : (ofF (cntF l)).length ≤ 32 := ofK_len _ 32
  have h3 := equal_prog l (ofF (cntF l)) hl (by omega)
  generalize ofF (cntF l) = V at *
  generalize cntF l = g at *
  refine rcalls Tryz.func68 rfl (by decide) ?_
  refine ⟨[], _, h1, ?_⟩
  rintro r hh ⟨rfl, rfl⟩
  refine ⟨.inl rfl, ?_⟩
  refine ⟨[], _, h2, ?_⟩
  rintro r hh ⟨rfl, rfl⟩
  refine ⟨.inl rfl, ?_⟩
  refine ⟨[], _, h3, ?_⟩
  rintro r hh ⟨rfl, rfl⟩
  refine ⟨.inl rfl, ?_⟩
  exact ⟨[], [], _, lehN _, leB rfl, rfl, rfl⟩

end
end Go.Proofs.YthckagkciefliaaGreatDoor.Vc
