/-
  Vectors, as they are known of in a walk. No program in sight.
-/
import Derived.Test.YthckagkciefliaaGreatDoorVcM
import Derived.Test.YthckagkciefliaaGreatDoorFwD
set_option linter.unusedVariables false
set_option linter.unusedSectionVars false
namespace Go.Proofs.YthckagkciefliaaGreatDoor.Vc
open Go AL Hx Dt

/-- A list of dots, as it may be read. -/
abbrev vecV (l : List (Int × Int)) : AV := .ro l.length 2 fun i => int .i64 (cellD l i)
abbrev cntV (g : Nat → Int) : AV := .aggI .i64 (tab g)

theorem take_dot {l : List (Int × Int)} {k : Nat} (h : k < l.length) : l.take (k + 1) = l.take k ++ [l.getD k (0, 0)] := by
  rw [List.take_succ_eq_append_getElem h, List.getD_eq_getElem?_getD, List.getElem?_eq_getElem h]
  rfl
theorem upd_set {g : Nat → Int} {a b : Int} (hm : mayD a b) : (tab g).set (addOff 0 a.toNat 1) (max ((tab g).getD (addOff 0 a.toNat 1) 0) b) = tab (updF g (a, b)) := by
  have h1 : addOff 0 a.toNat 1 = a.toNat := by simp [addOff]
  have h2 : a.toNat < 32 := by have := hm.2.1; have := hm.1; omega
  rw [h1, tab_get g h2, tab_set g h2, tab_ext]
  intro r hr
  unfold updF
  by_cases h : r = a.toNat
  · rw [if_pos h, if_pos ⟨hm, h⟩, h]
  · rw [if_neg h, if_neg fun c => h c.2]
theorem upd_not {g : Nat → Int} {a b : Int} (hm : ¬ mayD a b) : updF g (a, b) = g := funext fun r => if_neg fun c => hm c.1
theorem upd_low {g : Nat → Int} {a b : Int} (h : ¬ b > g a.toNat) : updF g (a, b) = g := funext fun r => by
  unfold updF
  split
  · rename_i c
    have : r = a.toNat := c.2
    subst this
    show max (g a.toNat) b = _
    omega
  · rfl
/-- One block is kept, and a place for a row that is not yet made. -/
theorem leh1R [Globs] {h : List AO} {j j' : Nat} {o o' : AO} (ho : h[j]? = some o) (hle : LeO h [j, j'] o o') (hj : h.length ≤ j') (g : Nat → AV) : LeH 0 h [j, j'] [o', .row 0 g] :=
  ⟨rfl, Nat.zero_le _, fun i hi => absurd hi (Nat.not_lt_zero _), List.nodup_cons.2 ⟨by
    have := (List.getElem?_eq_some_iff.1 ho).1
    simp; omega, List.nodup_cons.2 ⟨by simp, .nil⟩⟩, fun i m p hi hp => by
    match i with
    | 0 => simp at hi hp; subst hi hp; exact .inl ⟨o, ho, hle⟩
    | 1 => simp at hi hp; subst hi hp; exact .inr ⟨Nat.zero_le _, hj, .inr (.inr ⟨g, rfl⟩)⟩
    | i + 2 => simp at hi⟩
/-- A dot more at a list's end, cell by cell. -/
theorem snoc_old {l m : List (Int × Int)} {p : Int × Int} (h : m = l ++ [p]) {i : Nat} (hi : i < l.length * 2) : int .i64 (cellD m i) = int .i64 (cellD l i) := by rw [h, cell_old l p hi]
theorem snoc_new {l m : List (Int × Int)} {a b : Int} (h : m = l ++ [(a, b)]) {f : Nat → AV} (h0 : f 0 = int .i64 a) (h1 : f 1 = int .i64 b) {i : Nat} (hi : i < 1 * 2) : int .i64 (cellD m (l.length * 2 + i)) = f i := by
  match i, hi with
  | 0, _ => rw [h, cell_new0, h0]
  | 1, _ => rw [h, cell_new1, h1]
theorem two_cells {f : Nat → AV} {a b : Int} (h0 : f 0 = int .i64 a) (h1 : f 1 = int .i64 b) {i : Nat} (hi : i < 1 * 2) : cell1 (f i) = true := by
  match i, hi with
  | 0, _ => rw [h0]; rfl
  | 1, _ => rw [h1]; rfl
theorem off_lt (g : Nat → Int) {a b : Int} (hm : mayD a b) : addOff 0 a.toNat 1 < (tab g).length := by
  rw [tab_len]
  have := hm.1; have := hm.2.1
  simp [addOff]; omega
theorem cnt_take {l : List (Int × Int)} {k : Nat} (h : k < l.length) : cntF (l.take (k + 1)) = updF (cntF (l.take k)) (cellD l ((k : Int).toNat * 2 + 0), cellD l ((k : Int).toNat * 2 + 1)) := by
  rw [take_dot h, cnt_snoc, show ((k : Int)).toNat = k by omega, cell_fst, cell_snd]
theorem tab_part (g : Nat → Int) : List.take 32 (List.drop 0 (tab g)) = tab g := by rw [List.drop_zero, List.take_of_length_le (by rw [tab_len]; decide)]
theorem tab_blk (g : Nat → Int) (zs : List Int) (hz : zs.length = 32) : List.take 32 (List.drop 0 (List.take 0 zs ++ List.take 32 (List.drop 0 (tab g)) ++ List.drop (0 + (List.take 32 (List.drop 0 (tab g))).length) zs)) = tab g := by
  rw [tab_part, List.take_zero, List.nil_append, List.drop_zero, List.drop_eq_nil_of_le (by rw [tab_len, hz]; decide), List.append_nil, List.take_of_length_le (by rw [tab_len]; decide)]
section
variable [Globs]
theorem leAggI {h : List AO} {l : List Nat} {k : IntKind} {x y : List Int} (e : x = y) : LeV h l (.aggI k x) (.aggI k y) := by subst e; exact .aggI _ _
/-- A place for a row that is not yet made. -/
theorem lehR {h : List AO} {j : Nat} (hj : h.length ≤ j) (g : Nat → AV) : LeH 0 h [j] [.row 0 g] :=
  ⟨rfl, Nat.zero_le _, fun i hi => absurd hi (Nat.not_lt_zero _), List.nodup_cons.2 ⟨by simp, .nil⟩, fun i m p hi hp => by
    cases i with
    | zero => simp at hi hp; subst hi hp; exact .inr ⟨Nat.zero_le _, hj, .inr (.inr ⟨g, rfl⟩)⟩
    | succ i => simp at hi⟩
theorem leVec {h : List AO} {l : List Nat} {a b : List (Int × Int)} (e : a = b) : LeO h l (.row (a.length * 2) fun i => int .i64 (cellD a i)) (.row (b.length * 2) fun i => int .i64 (cellD b i)) := by subst e; exact .row _ _ _ _ (Nat.le_refl _) fun i hi => leI rfl
theorem giveVec {h : List AO} {l : List Nat} {id : Nat} {a b : List (Int × Int)} (e : h[id]? = some (.row (a.length * 2) fun i => int .i64 (cellD a i))) (hl : id ∉ l) (eq : a = b) : LeV h l (.own id 0 a.length 2) (vecV b) := by
  subst eq
  exact .giveR _ e hl (by omega) (fun i hi => leI (by rw [Nat.zero_add])) fun i hi => trivial
theorem leRow {h : List AO} {l : List Nat} {n m : Nat} {f g : Nat → Int} (hm : m ≤ n) (e : ∀ i, i < m → f i = g i) : LeO h l (.row n fun i => int .i64 (f i)) (.row m fun i => int .i64 (g i)) :=
  .row n m _ _ hm fun i hi => leI (e i hi)

end
end Go.Proofs.YthckagkciefliaaGreatDoor.Vc
