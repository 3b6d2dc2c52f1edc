/-
  Matrices, in plain Lean: lists of vectors. No program in sight.
-/
import Derived.Test.YthckagkciefliaaGreatDoorVcT
set_option linter.unusedVariables false
namespace Go.Proofs.YthckagkciefliaaGreatDoor.Mt
open Go AL Hx Dt Spl Vc

abbrev Vc1 := List (Int × Int)
/-- A row of a matrix. -/
def rowM (m : List Vc1) (i : Nat) : Vc1 := m.getD i []
theorem row_lt {m : List Vc1} {i : Nat} (h : i < m.length) : rowM m i = m[i] := by
  unfold rowM; rw [List.getD_eq_getElem?_getD, List.getElem?_eq_getElem h]; rfl
theorem row_ge {m : List Vc1} {i : Nat} (h : m.length ≤ i) : rowM m i = [] := by
  unfold rowM; rw [List.getD_eq_getElem?_getD, List.getElem?_eq_none h]; rfl
theorem row_mem {m : List Vc1} {i : Nat} (h : i < m.length) : rowM m i ∈ m := by rw [row_lt h]; exact List.getElem_mem _
theorem row_ext {a b : List Vc1} (hl : a.length = b.length) (h : ∀ i, i < a.length → rowM a i = rowM b i) : a = b := by
  apply List.ext_getElem hl
  intro i h1 h2
  rw [← row_lt h1, ← row_lt h2]
  exact h i h1
theorem row_set {m : List Vc1} {k i : Nat} {v : Vc1} (hk : k < m.length) : rowM (m.set k v) i = if i = k then v else rowM m i := by
  unfold rowM
  rw [List.getD_eq_getElem?_getD, List.getElem?_set]
  by_cases h : i = k
  · subst h; simp [hk]
  · rw [if_neg (Ne.symm h), if_neg h, List.getD_eq_getElem?_getD]
def mapM (n : Nat) (f : Nat → Vc1) : List Vc1 := (List.range n).map f
theorem mapM_len (n : Nat) (f : Nat → Vc1) : (mapM n f).length = n := by simp [mapM]
theorem mapM_row {n : Nat} {f : Nat → Vc1} {i : Nat} (h : i < n) : rowM (mapM n f) i = f i := by
  unfold rowM mapM
  rw [List.getD_eq_getElem?_getD, List.getElem?_map, List.getElem?_range h]
  rfl

/-- May a vector be? -/
def mayV (l : Vc1) : Prop := l = ofF (cntF l)
instance (l : Vc1) : Decidable (mayV l) := by unfold mayV; exact inferInstance
def mayM (m : List Vc1) (n : Int) : Prop := 1 ≤ n ∧ n ≤ 32 ∧ (m.length : Int) = n ∧ ∀ i, i < m.length → mayV (rowM m i)
instance (m : List Vc1) (n : Int) : Decidable (mayM m n) := by unfold mayM; exact inferInstance
theorem mayV_of {g : Nat → Int} (hg : okF g) : mayV (ofF g) := by unfold mayV; rw [cnt_of hg]
theorem mayV_eq {a b : Vc1} (ha : mayV a) (hb : mayV b) (h : cntF a = cntF b) : a = b := by
  unfold mayV at ha hb; rw [ha, hb, h]
/-- What both know. -/
def joinV (a b : Vc1) : Vc1 := ofF (maxF (cntF a) (cntF b))
def meetV (a b : Vc1) : Vc1 := ofF (minF (cntF a) (cntF b))
theorem joinV_cnt (a b : Vc1) : cntF (joinV a b) = maxF (cntF a) (cntF b) := cnt_of (max_ok (cnt_ok a) (cnt_ok b))
theorem meetV_cnt (a b : Vc1) : cntF (meetV a b) = minF (cntF a) (cntF b) := cnt_of (min_ok (cnt_ok a) (cnt_ok b))
theorem joinV_may (a b : Vc1) : mayV (joinV a b) := mayV_of (max_ok (cnt_ok a) (cnt_ok b))
theorem meetV_may (a b : Vc1) : mayV (meetV a b) := mayV_of (min_ok (cnt_ok a) (cnt_ok b))
theorem of_le (g : Nat → Int) : (ofF g).length ≤ 9223372036854775807 := by have := ofK_len g 32; show (ofK g 32).length ≤ _; omega
/-- A row is raised. -/
def raiseM (m : List Vc1) (n : Int) (v : Vc1) : List Vc1 := if 0 ≤ n ∧ n < m.length then m.set n.toNat (joinV (rowM m n.toNat) v) else m
theorem raise_len (m : List Vc1) (n : Int) (v : Vc1) : (raiseM m n v).length = m.length := by unfold raiseM; split <;> simp
theorem raise_row (m : List Vc1) (n : Int) (v : Vc1) (i : Nat) : rowM (raiseM m n v) i = if 0 ≤ n ∧ n < m.length ∧ i = n.toNat then joinV (rowM m i) v else rowM m i := by
  unfold raiseM
  split
  · rename_i h
    rw [row_set (by omega)]
    by_cases hi : i = n.toNat
    · rw [if_pos hi, if_pos ⟨h.1, h.2, hi⟩, hi]
    · rw [if_neg hi, if_neg fun c => hi c.2.2]
  · rename_i h
    rw [if_neg fun c => h ⟨c.1, c.2.1⟩]
/-- What all are known to know. -/
def lowS (m : List Vc1) : Nat → Vc1
  | 0 => meetV (rowM m 0) (rowM m 0)
  | k + 1 => meetV (lowS m k) (rowM m (k + 1))
def lowM (m : List Vc1) : Vc1 := if m = [] then [] else lowS m (m.length - 1)
theorem lowS_len (m : List Vc1) (k : Nat) : (lowS m k).length ≤ 9223372036854775807 := by cases k <;> exact of_le _
theorem lowS_le (m : List Vc1) : ∀ (k i r : Nat), i ≤ k → cntF (lowS m k) r ≤ cntF (rowM m i) r
  | 0, i, r, h => by
    obtain rfl : i = 0 := by omega
    show cntF (meetV _ _) r ≤ _
    rw [meetV_cnt]; simp only [minF]; omega
  | k + 1, i, r, h => by
    show cntF (meetV _ _) r ≤ _
    rw [meetV_cnt]
    simp only [minF]
    rcases Nat.lt_or_ge i (k + 1) with h1 | h1
    · have := lowS_le m k i r (by omega)
      omega
    · obtain rfl : i = k + 1 := by omega
      omega
theorem lowS_ge (m : List Vc1) (r : Nat) (x : Int) : ∀ (k : Nat), (∀ i, i ≤ k → x ≤ cntF (rowM m i) r) → x ≤ cntF (lowS m k) r
  | 0, h => by
    show _ ≤ cntF (meetV _ _) r
    rw [meetV_cnt]
    have := h 0 (by omega)
    simp only [minF]; omega
  | k + 1, h => by
    show _ ≤ cntF (meetV _ _) r
    rw [meetV_cnt]
    have h1 := lowS_ge m r x k fun i hi => h i (by omega)
    have h2 := h (k + 1) (by omega)
    simp only [minF]; omega
def joinM (a b : List Vc1) : List Vc1 := mapM (max a.length b.length) fun i => if b.length ≤ i then rowM a i else if a.length ≤ i then rowM b i else joinV (rowM a i) (rowM b i)
/-- A matrix's text. -/
def textR (l : Vc1) : ByteArray := textV (ofF (cntF l))
def rowsT (m : List Vc1) : List ByteArray := m.map textR
def textM (m : List Vc1) : ByteArray := ba (joinC 59 ((rowsT m).map (·.data.toList)))
theorem rowsT_len (m : List Vc1) : (rowsT m).length = m.length := by simp [rowsT]

/-- A text's matrix. -/
noncomputable def vecsOf (s : ByteArray) : List Vc1 := (pieces 59 s.data.toList).map fun p => parseVL (ba p)
def okRows (s : ByteArray) : Prop := ∀ p ∈ pieces 59 s.data.toList, okVec (ba p)
def okMat (s : ByteArray) (n : Int) : Prop := okRows s ∧ mayM (vecsOf s) n
open Classical in
noncomputable def parseME (s : ByteArray) (n : Int) : Int := if okMat s n then 0 else 2
open Classical in
noncomputable def parseML (s : ByteArray) (n : Int) : List Vc1 := if okMat s n then vecsOf s else []
theorem parseM_ok {s : ByteArray} {n : Int} (h : okMat s n) : parseME s n = 0 ∧ parseML s n = vecsOf s := by
  unfold parseME parseML; rw [if_pos h, if_pos h]; exact ⟨rfl, rfl⟩
theorem parseM_bad {s : ByteArray} {n : Int} (h : ¬ okMat s n) : parseME s n = 2 ∧ parseML s n = [] := by
  unfold parseME parseML; rw [if_neg h, if_neg h]; exact ⟨rfl, rfl⟩

theorem text_no59 (r q : Int) : ∀ c ∈ (textD r q).data.toList, c ≠ 59 := by
  have num : ∀ n : Int, ∀ c ∈ (numS n).data.toList, c ≠ 59 := by
    intro n c hc
    by_cases h : 0 ≤ n
    · have := num_digits h c hc
      rintro rfl
      exact absurd this.2 (by decide)
    · rw [numS_list] at hc
      unfold Lib.itoa at hc
      rw [if_pos (by omega)] at hc
      rcases List.mem_cons.1 hc with rfl | hc
      · decide
      · have := dec_digit _ c hc
        rintro rfl
        exact absurd this.2 (by decide)
  intro c hc
  rw [text_list] at hc
  rcases List.mem_append.1 hc with h | h
  · exact num r c h
  · rcases List.mem_cons.1 h with rfl | h
    · decide
    · exact num q c h
theorem mem_join {c : UInt8} {x : UInt8} : ∀ {ps : List (List UInt8)}, x ∈ joinC c ps → x = c ∨ ∃ p ∈ ps, x ∈ p
  | [], h => by simp [joinC] at h
  | p :: r, h => by
    unfold joinC at h
    rcases List.mem_append.1 h with h | h
    · exact .inr ⟨p, by simp, h⟩
    · obtain ⟨q, hq, h⟩ := List.mem_flatMap.1 h
      rcases List.mem_cons.1 h with h | h
      · exact .inl h
      · exact .inr ⟨q, by simp [hq], h⟩
theorem textV_no59 (l : Vc1) : ∀ c ∈ (textV l).data.toList, c ≠ 59 := by
  intro c hc
  by_cases h : l = []
  · unfold textV at hc
    rw [if_pos h] at hc
    have : c = 45 := by simpa [dash] using hc
    rw [this]; decide
  · rw [textV_ne h, ba_list] at hc
    rcases mem_join hc with rfl | ⟨p, hp, hx⟩
    · decide
    · obtain ⟨d, _, rfl⟩ := List.mem_map.1 hp
      exact text_no59 _ _ c hx
theorem rowsT_free (m : List Vc1) : ∀ p ∈ (rowsT m).map (·.data.toList), ∀ x ∈ p, x ≠ 59 := by
  intro p hp x hx
  obtain ⟨t, ht, rfl⟩ := List.mem_map.1 hp
  obtain ⟨l, _, rfl⟩ := List.mem_map.1 ht
  exact textV_no59 _ x hx
theorem textM_pieces {m : List Vc1} (h : m ≠ []) : pieces 59 (textM m).data.toList = (rowsT m).map (·.data.toList) := by
  unfold textM
  rw [ba_list, pieces_join (by simpa [rowsT] using h) (rowsT_free m)]
theorem vecsOf_len (s : ByteArray) : (vecsOf s).length = (pieces 59 s.data.toList).length := by simp [vecsOf]
theorem vecsOf_ne (s : ByteArray) : vecsOf s ≠ [] := fun h => pieces_ne 59 _ (List.map_eq_nil_iff.1 h)
/-- A matrix that may be is parsed as it was. -/
theorem matText_back {m : List Vc1} {n : Int} (h : mayM m n) : okMat (textM m) n ∧ vecsOf (textM m) = m := by
  have hne : m ≠ [] := fun e => by subst e; have := h.1; have := h.2.2.1; simp at this; omega
  have hv : vecsOf (textM m) = m := by
    unfold vecsOf
    rw [textM_pieces hne]
    unfold rowsT
    rw [List.map_map, List.map_map]
    conv => rhs; rw [← List.map_id m]
    apply List.map_congr_left
    intro l hl
    show parseVL (ba (textR l).data.toList) = l
    rw [ba_data]
    unfold textR
    rw [(parse_textV (cnt_ok l)).2]
    obtain ⟨i, hi, rfl⟩ := List.getElem_of_mem hl
    have := h.2.2.2 i hi
    rw [row_lt hi] at this
    exact this.symm
  refine ⟨⟨?_, by rw [hv]; exact h⟩, hv⟩
  intro p hp
  rw [textM_pieces hne] at hp
  obtain ⟨t, ht, rfl⟩ := List.mem_map.1 hp
  obtain ⟨l, _, rfl⟩ := List.mem_map.1 ht
  rw [ba_data]
  refine Classical.byContradiction fun hn => ?_
  have := (parseV_bad hn).1
  unfold textR at this
  rw [(parse_textV (cnt_ok l)).1] at this
  cases this
/-- What is parsed may be, and has the very text. -/
theorem parseM_back {s : ByteArray} {n : Int} (h : okMat s n) : mayM (vecsOf s) n ∧ textM (vecsOf s) = s := by
  refine ⟨h.2, ?_⟩
  unfold textM rowsT vecsOf
  rw [List.map_map, List.map_map]
  have : (pieces 59 s.data.toList).map (((fun x : ByteArray => x.data.toList) ∘ textR) ∘ fun p => parseVL (ba p)) = pieces 59 s.data.toList := by
    conv => rhs; rw [← List.map_id (pieces 59 s.data.toList)]
    apply List.map_congr_left
    intro p hp
    show (textR (parseVL (ba p))).data.toList = p
    unfold textR
    rw [(parseV_back (h.1 p hp)).2, ba_list]
  rw [this, join_pieces, ba_data]

end Go.Proofs.YthckagkciefliaaGreatDoor.Mt
