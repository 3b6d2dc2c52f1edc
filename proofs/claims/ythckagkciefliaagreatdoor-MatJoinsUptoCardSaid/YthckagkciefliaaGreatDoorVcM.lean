/-
  Vectors, in plain Lean: lists of dots, and of each replica how many. No program in sight.
-/
import Derived.Test.YthckagkciefliaaGreatDoorDtM
set_option linter.unusedVariables false
namespace Go.Proofs.YthckagkciefliaaGreatDoor.Vc
open Go AL Hx Dt

/-- The cells of a list of dots. -/
def cellD (l : List (Int × Int)) (i : Nat) : Int := if i % 2 = 0 then (l.getD (i / 2) (0, 0)).1 else (l.getD (i / 2) (0, 0)).2
theorem cell_fst (l : List (Int × Int)) (k : Nat) : cellD l (k * 2 + 0) = (l.getD k (0, 0)).1 := by
  unfold cellD; rw [if_pos (by omega), show (k * 2 + 0) / 2 = k by omega]
theorem cell_snd (l : List (Int × Int)) (k : Nat) : cellD l (k * 2 + 1) = (l.getD k (0, 0)).2 := by
  unfold cellD; rw [if_neg (by omega), show (k * 2 + 1) / 2 = k by omega]
theorem cell_old (l : List (Int × Int)) (p : Int × Int) {i : Nat} (h : i < l.length * 2) : cellD (l ++ [p]) i = cellD l i := by
  unfold cellD
  have : (l ++ [p]).getD (i / 2) (0, 0) = l.getD (i / 2) (0, 0) := by
    rw [List.getD_eq_getElem?_getD, List.getElem?_append_left (by omega), List.getD_eq_getElem?_getD]
  rw [this]
theorem cell_new0 (l : List (Int × Int)) (p : Int × Int) : cellD (l ++ [p]) (l.length * 2 + 0) = p.1 := by
  rw [cell_fst, List.getD_eq_getElem?_getD, List.getElem?_append_right (Nat.le_refl _)]; simp
theorem cell_new1 (l : List (Int × Int)) (p : Int × Int) : cellD (l ++ [p]) (l.length * 2 + 1) = p.2 := by
  rw [cell_snd, List.getD_eq_getElem?_getD, List.getElem?_append_right (Nat.le_refl _)]; simp

/-- Of each replica how many. -/
def updF (g : Nat → Int) (p : Int × Int) : Nat → Int := fun i => if mayD p.1 p.2 ∧ i = p.1.toNat then max (g i) p.2 else g i
def cntF (l : List (Int × Int)) : Nat → Int := l.foldl updF fun _ => 0
theorem cnt_nil : cntF [] = fun _ => 0 := rfl
theorem cnt_snoc (l : List (Int × Int)) (p : Int × Int) : cntF (l ++ [p]) = updF (cntF l) p := by
  unfold cntF; rw [List.foldl_append]; rfl
def tab (g : Nat → Int) : List Int := (List.range 32).map g
theorem tab_len (g : Nat → Int) : (tab g).length = 32 := by simp [tab]
theorem tab_get (g : Nat → Int) {r : Nat} (h : r < 32) : (tab g).getD r 0 = g r := by
  unfold tab
  rw [List.getD_eq_getElem?_getD, List.getElem?_map, List.getElem?_range h]
  rfl
theorem tab_ext {g g' : Nat → Int} : tab g = tab g' ↔ ∀ r, r < 32 → g r = g' r := by
  constructor
  · intro h r hr
    rw [← tab_get g hr, h, tab_get g' hr]
  · intro h
    unfold tab
    apply List.map_congr_left
    intro r hr
    exact h r (List.mem_range.1 hr)
theorem tab_set (g : Nat → Int) {r : Nat} {v : Int} (h : r < 32) : (tab g).set r v = tab fun i => if i = r then v else g i := by
  unfold tab
  apply List.ext_getElem?
  intro i
  rw [List.getElem?_set]
  by_cases hi : i < 32
  · rw [List.getElem?_map, List.getElem?_map, List.getElem?_range hi]
    by_cases hr : r = i
    · subst hr; simp [hi]
    · simp [hr, Ne.symm hr]
  · rw [List.getElem?_eq_none (by simpa using hi), List.getElem?_eq_none (by simpa using hi)]
    split <;> simp_all
theorem tab_zero : tab (fun _ => 0) = List.replicate 32 0 := by decide

def okF (g : Nat → Int) : Prop := ∀ r, 0 ≤ g r ∧ g r ≤ 1099511627776 ∧ (32 ≤ r → g r = 0)
theorem upd_ok {g : Nat → Int} (h : okF g) (p : Int × Int) : okF (updF g p) := by
  intro r
  have := h r
  unfold updF
  split
  · rename_i hc
    obtain ⟨⟨h1, h2, h3, h4⟩, h5⟩ := hc
    refine ⟨by omega, by omega, fun hr => by omega⟩
  · exact this
theorem cnt_ok (l : List (Int × Int)) : okF (cntF l) := by
  have go : ∀ (l : List (Int × Int)) (g : Nat → Int), okF g → okF (l.foldl updF g) := by
    intro l
    induction l with
    | nil => intro g h; exact h
    | cons p l ih => intro g h; exact ih _ (upd_ok h p)
  exact go l _ fun r => ⟨Int.le_refl _, by decide, fun _ => rfl⟩

/-- The vector of how many. -/
def ofK (g : Nat → Int) (k : Nat) : List (Int × Int) := (List.range k).filterMap fun r => if 0 < g r then some ((r : Int), g r) else none
abbrev ofF (g : Nat → Int) : List (Int × Int) := ofK g 32
theorem ofK_succ (g : Nat → Int) (k : Nat) : ofK g (k + 1) = if 0 < g k then ofK g k ++ [((k : Int), g k)] else ofK g k := by
  unfold ofK
  rw [List.range_succ, List.filterMap_append]
  split
  · rename_i h; simp [h]
  · rename_i h; simp [h]
theorem ofK_len (g : Nat → Int) : ∀ k, (ofK g k).length ≤ k
  | 0 => Nat.le_refl _
  | k + 1 => by
    have := ofK_len g k
    rw [ofK_succ]
    split
    · simp; omega
    · omega
theorem ofK_congr {g g' : Nat → Int} : ∀ {k : Nat}, (∀ r, r < k → g r = g' r) → ofK g k = ofK g' k
  | 0, _ => rfl
  | k + 1, h => by rw [ofK_succ, ofK_succ, h k (by omega), ofK_congr (k := k) fun r hr => h r (by omega)]
theorem cnt_ofK {g : Nat → Int} (hg : okF g) : ∀ k, k ≤ 32 → ∀ r, cntF (ofK g k) r = if r < k then g r else 0
  | 0, _, r => by simp [ofK, cnt_nil]
  | k + 1, hk, r => by
    have ih := cnt_ofK hg k (by omega) r
    have hgk := hg k
    rw [ofK_succ]
    split
    · rename_i hpos
      rw [cnt_snoc]
      unfold updF
      by_cases hr : r = k
      · subst hr
        rw [if_pos ⟨⟨by simp, by simp; omega, by simp; omega, by simp; omega⟩, by simp⟩, ih, if_neg (by omega), if_pos (by omega)]
        simp; omega
      · rw [if_neg (by simp; omega), ih]
        by_cases h : r < k
        · rw [if_pos h, if_pos (by omega)]
        · rw [if_neg h, if_neg (by omega)]
    · rw [ih]
      by_cases hr : r = k
      · subst hr; rw [if_neg (by omega), if_pos (by omega)]; omega
      · by_cases h : r < k
        · rw [if_pos h, if_pos (by omega)]
        · rw [if_neg h, if_neg (by omega)]
/-- What a vector says is what it was made of. -/
theorem cnt_of {g : Nat → Int} (hg : okF g) : cntF (ofF g) = g := funext fun r => by
  rw [cnt_ofK hg 32 (Nat.le_refl _)]
  split
  · rfl
  · exact ((hg r).2.2 (by omega)).symm
theorem of_may {g : Nat → Int} (hg : okF g) : ∀ k, k ≤ 32 → ∀ p ∈ ofK g k, mayD p.1 p.2
  | 0, _, p, h => by simp [ofK] at h
  | k + 1, hk, p, h => by
    rw [ofK_succ] at h
    split at h
    · rename_i hpos
      rcases List.mem_append.1 h with h | h
      · exact of_may hg k (by omega) p h
      · have := hg k
        simp at h
        subst h
        unfold mayD
        simp; omega
    · exact of_may hg k (by omega) p h

def maxF (g h : Nat → Int) : Nat → Int := fun r => max (g r) (h r)
def minF (g h : Nat → Int) : Nat → Int := fun r => min (g r) (h r)
theorem max_ok {g h : Nat → Int} (hg : okF g) (hh : okF h) : okF (maxF g h) := fun r => by
  have := hg r; have := hh r; unfold maxF; refine ⟨by omega, by omega, fun hr => ?_⟩; have := (hg r).2.2 hr; have := (hh r).2.2 hr; omega
theorem min_ok {g h : Nat → Int} (hg : okF g) (hh : okF h) : okF (minF g h) := fun r => by
  have := hg r; have := hh r; unfold minF; refine ⟨by omega, by omega, fun hr => ?_⟩; have := (hg r).2.2 hr; have := (hh r).2.2 hr; omega
theorem ok_ext {g h : Nat → Int} (hg : okF g) (hh : okF h) : tab g = tab h ↔ g = h := by
  rw [tab_ext]
  constructor
  · intro e
    funext r
    rcases Nat.lt_or_ge r 32 with hr | hr
    · exact e r hr
    · rw [(hg r).2.2 hr, (hh r).2.2 hr]
  · rintro rfl r _; rfl
theorem cnt_one (p : Int × Int) : cntF [p] = updF (fun _ => 0) p := rfl
/-- A vector that knows one more. -/
theorem max_one {g : Nat → Int} (hg : okF g) (p : Int × Int) : maxF g (cntF [p]) = updF g p := funext fun r => by
  have := hg r
  rw [cnt_one]
  show max (g r) (if mayD p.1 p.2 ∧ r = p.1.toNat then max 0 p.2 else 0) = if mayD p.1 p.2 ∧ r = p.1.toNat then max (g r) p.2 else g r
  split
  · rename_i hc; have := hc.1.2.2.1; omega
  · omega

end Go.Proofs.YthckagkciefliaaGreatDoor.Vc
