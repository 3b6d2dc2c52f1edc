/-
  Dots and their texts, in plain Lean. No program in sight.
-/
import Derived.Test.YthckagkciefliaaGreatDoorHxM
set_option linter.unusedVariables false
namespace Go.Proofs.YthckagkciefliaaGreatDoor.Dt
open Go AL Hx

/-- May a dot be? -/
def mayD (r q : Int) : Prop := 0 ≤ r ∧ r ≤ 31 ∧ 1 ≤ q ∧ q ≤ 1099511627776
instance (r q : Int) : Decidable (mayD r q) := by unfold mayD; exact inferInstance
/-- The order of two dots. -/
def cmpD (a b c d : Int) : Int := if a < c then -1 else if c < a then 1 else if b < d then -1 else if d < b then 1 else 0
/-- A dot's text. -/
def textD (r q : Int) : ByteArray := numS r ++ ⟨#[58]⟩ ++ numS q

/-- The place of the first colon. -/
def atL (l : List UInt8) : Nat := l.idxOf 58
def atS (s : ByteArray) : Nat := atL s.data.toList
def leftS (s : ByteArray) : ByteArray := s.extract 0 (atS s)
def rightS (s : ByteArray) : ByteArray := s.extract (atS s + 1) s.size

theorem at_first {l : List UInt8} {k : Nat} (hk : k < l.length) (hc : l[k] = 58) (hn : ∀ i (hi : i < k), l[i]'(by omega) ≠ 58) : atL l = k := by
  induction l generalizing k with
  | nil => simp at hk
  | cons c l ih =>
    unfold atL
    cases k with
    | zero => simp at hc; subst hc; simp
    | succ k =>
      have h0 := hn 0 (by omega)
      simp only [List.getElem_cons_zero] at h0
      rw [List.idxOf_cons, show (c == 58) = false by simpa using h0, cond_false]
      have := ih (k := k) (by simpa using hk) (by simpa using hc) (fun i hi => by have := hn (i + 1) (by omega); simpa using this)
      unfold atL at this
      rw [this]
theorem at_none {l : List UInt8} (hn : ∀ c ∈ l, c ≠ 58) : atL l = l.length := by
  unfold atL
  rw [List.idxOf_eq_length]
  exact fun h => hn 58 h rfl
theorem at_le (l : List UInt8) : atL l ≤ l.length := List.idxOf_le_length
theorem at_get {l : List UInt8} (h : atL l < l.length) : l[atL l] = 58 := by
  unfold atL
  exact List.getElem_idxOf h

theorem extract_list (s : ByteArray) (a b : Nat) : (s.extract a b).data.toList = (s.data.toList.take b).drop a := by
  rw [ByteArray.data_extract, Array.toList_extract]
  simp [List.drop_take]
theorem ba_ext' {s t : ByteArray} (h : s.data.toList = t.data.toList) : s = t := by
  cases s; cases t; simp at h; congr

/-- A text with a colon, put together. -/
theorem cut_join {s : ByteArray} (h : atS s < s.size) : leftS s ++ ⟨#[58]⟩ ++ rightS s = s := by
  refine ba_ext' ?_
  have hl : s.data.toList.length = s.size := rfl
  have h' : atL s.data.toList < s.data.toList.length := by rw [hl]; exact h
  simp only [ByteArray.data_append, Array.toList_append, leftS, rightS, extract_list, List.drop_zero]
  have h1 : s.data.toList.take s.size = s.data.toList := List.take_of_length_le (by omega)
  rw [h1]
  have h2 : s.data.toList.drop (atS s) = 58 :: s.data.toList.drop (atS s + 1) := by
    unfold atS
    rw [List.drop_eq_getElem_cons h']
    congr 1
    exact at_get h'
  have h3 := List.take_append_drop (atS s) s.data.toList
  rw [h2] at h3
  rw [List.append_assoc]
  exact h3

theorem num_no58 {n : Int} : ∀ c ∈ (numS n).data.toList, c ≠ 58 := by
  intro c hc
  by_cases h : 0 ≤ n
  · have := num_digits h c hc
    rintro rfl
    exact absurd this.2 (by decide)
  · rw [numS_list] at hc
    unfold Lib.itoa at hc
    rw [if_pos (by omega)] at hc
    rcases List.mem_cons.1 hc with rfl | hc
    · decide
    · have := dec_digit _ c hc
      rintro rfl
      exact absurd this.2 (by decide)

theorem text_list (r q : Int) : (textD r q).data.toList = (numS r).data.toList ++ 58 :: (numS q).data.toList := by
  unfold textD
  simp [ByteArray.data_append]
theorem text_at (r q : Int) : atS (textD r q) = (numS r).size := by
  have hl : (numS r).data.toList.length = (numS r).size := rfl
  unfold atS
  refine at_first (k := (numS r).size) ?_ ?_ ?_
  · rw [text_list]; simp
  · simp only [text_list]
    rw [List.getElem_append_right (by omega)]
    simp
  · intro i hi
    simp only [text_list]
    rw [List.getElem_append_left (by omega)]
    exact num_no58 _ (List.getElem_mem _)
theorem text_size (r q : Int) : (textD r q).size = (numS r).size + 1 + (numS q).size := by
  unfold textD
  rw [ByteArray.size_append, ByteArray.size_append]
  rfl
theorem text_left (r q : Int) : leftS (textD r q) = numS r := by
  refine ba_ext' ?_
  have hl : (numS r).data.toList.length = (numS r).size := rfl
  unfold leftS
  rw [extract_list, text_at, text_list, List.drop_zero, List.take_append_of_le_length (by omega), List.take_of_length_le (by omega)]
theorem text_right (r q : Int) : rightS (textD r q) = numS q := by
  refine ba_ext' ?_
  have hl : (numS r).data.toList.length = (numS r).size := rfl
  have hs : (textD r q).data.toList.length = (textD r q).size := rfl
  unfold rightS
  rw [extract_list, text_at, List.take_of_length_le (by omega), text_list, ← hl, List.drop_append, List.drop_eq_nil_of_le (by omega)]
  simp

/-- Is a text a dot's? Then of which. -/
def okP (s : ByteArray) : Prop := atS s < s.size ∧ readE (leftS s) 31 = 0 ∧ readE (rightS s) 1099511627776 = 0 ∧ mayD (readV (leftS s) 31) (readV (rightS s) 1099511627776)
open Classical in
noncomputable def parseE (s : ByteArray) : Int := if okP s then 0 else 2
open Classical in
noncomputable def parseR (s : ByteArray) : Int := if okP s then readV (leftS s) 31 else 0
open Classical in
noncomputable def parseQ (s : ByteArray) : Int := if okP s then readV (rightS s) 1099511627776 else 0

theorem parse_ok {s : ByteArray} (h : okP s) : parseE s = 0 ∧ parseR s = readV (leftS s) 31 ∧ parseQ s = readV (rightS s) 1099511627776 := by
  unfold parseE parseR parseQ
  rw [if_pos h, if_pos h, if_pos h]
  exact ⟨rfl, rfl, rfl⟩
theorem parse_bad {s : ByteArray} (h : ¬ okP s) : parseE s = 2 ∧ parseR s = 0 ∧ parseQ s = 0 := by
  unfold parseE parseR parseQ
  rw [if_neg h, if_neg h, if_neg h]
  exact ⟨rfl, rfl, rfl⟩
theorem read_num {s : ByteArray} {m : Int} (h : readE s m = 0) : isNum s (readV s m) ∧ readV s m ≤ m := by
  by_cases hx : ∃ v, isNum s v
  · obtain ⟨v, hv⟩ := hx
    by_cases hm : v > m
    · rw [(read_over hv hm).1] at h; omega
    · rw [(read_ok hv hm).2]; exact ⟨hv, by omega⟩
  · rw [(read_none (most := m) fun v hv => hx ⟨v, hv⟩).1] at h; omega
theorem neg_not' {n : Int} (h : n < 0) (v : Int) : ¬ isNum (numS n) v := fun hn => by
  obtain ⟨r, e⟩ := num_neg h
  have := num_digits hn.1 45 (by rw [← hn.2.2, e]; simp)
  exact absurd this.1 (by decide)
/-- What is parsed may be, and has the very text. -/
theorem parse_back {s : ByteArray} (h : okP s) : mayD (parseR s) (parseQ s) ∧ textD (parseR s) (parseQ s) = s := by
  obtain ⟨_, e2, e3⟩ := parse_ok h
  obtain ⟨h1, h2, h3, h4⟩ := h
  rw [e2, e3]
  refine ⟨h4, ?_⟩
  have g1 := (read_num h2).1.2.2
  have g2 := (read_num h3).1.2.2
  unfold textD
  rw [← g1, ← g2]
  exact cut_join h1
/-- A dot's text is parsed as it, if it may be, and else as none. -/
theorem parse_text {r q : Int} (hr : -9223372036854775808 ≤ r ∧ r < 9223372036854775808) (hq : -9223372036854775808 ≤ q ∧ q < 9223372036854775808) :
    (mayD r q → okP (textD r q) ∧ parseR (textD r q) = r ∧ parseQ (textD r q) = q) ∧ (¬ mayD r q → ¬ okP (textD r q)) := by
  have hat : atS (textD r q) < (textD r q).size := by rw [text_at, text_size]; omega
  refine ⟨fun h => ?_, fun h hok => ?_⟩
  · obtain ⟨h1, h2, h3, h4⟩ := h
    have a := read_ok (s := numS r) (v := r) (most := 31) ⟨h1, hr.2, rfl⟩ (by omega)
    have b := read_ok (s := numS q) (v := q) (most := 1099511627776) ⟨by omega, hq.2, rfl⟩ (by omega)
    have hok : okP (textD r q) := by
      unfold okP
      rw [text_left, text_right, a.1, a.2, b.1, b.2]
      exact ⟨hat, rfl, rfl, h1, h2, h3, h4⟩
    obtain ⟨_, e2, e3⟩ := parse_ok hok
    rw [e2, e3, text_left, text_right]
    exact ⟨hok, a.2, b.2⟩
  · obtain ⟨_, h2, h3, h4⟩ := hok
    rw [text_left] at h2 h4
    rw [text_right] at h3 h4
    have g1 := (read_num h2).1
    have g2 := (read_num h3).1
    have e1 : r = readV (numS r) 31 := by
      rcases Int.lt_or_le r 0 with hlt | hge
      · exact absurd g1 (neg_not' hlt _)
      · exact numS_inj hge hr.2 g1.1 g1.2.1 g1.2.2
    have e2 : q = readV (numS q) 1099511627776 := by
      rcases Int.lt_or_le q 0 with hlt | hge
      · exact absurd g2 (neg_not' hlt _)
      · exact numS_inj hge hq.2 g2.1 g2.2.1 g2.2.2
    rw [← e1, ← e2] at h4
    exact h h4

theorem text_inj {r q r' q' : Int} (hr : 0 ≤ r ∧ r < 9223372036854775808) (hq : 0 ≤ q ∧ q < 9223372036854775808) (hr' : 0 ≤ r' ∧ r' < 9223372036854775808) (hq' : 0 ≤ q' ∧ q' < 9223372036854775808)
    (h : textD r q = textD r' q') : r = r' ∧ q = q' := by
  have h1 : numS r = numS r' := by rw [← text_left r q, ← text_left r' q', h]
  have h2 : numS q = numS q' := by rw [← text_right r q, ← text_right r' q', h]
  exact ⟨numS_inj hr.1 hr.2 hr'.1 hr'.2 h1, numS_inj hq.1 hq.2 hq'.1 hq'.2 h2⟩
theorem text_size_le {r q : Int} (hr : -9223372036854775808 ≤ r ∧ r < 9223372036854775808) (hq : -9223372036854775808 ≤ q ∧ q < 9223372036854775808) : (textD r q).size ≤ 43 := by
  rw [text_size]
  have := num_size_le hr.1 hr.2
  have := num_size_le hq.1 hq.2
  omega
theorem text_ne (r q : Int) : textD r q ≠ ByteArray.empty := fun h => by
  have := text_size r q
  rw [h] at this
  have : ByteArray.empty.size = 0 := rfl
  omega

end Go.Proofs.YthckagkciefliaaGreatDoor.Dt
