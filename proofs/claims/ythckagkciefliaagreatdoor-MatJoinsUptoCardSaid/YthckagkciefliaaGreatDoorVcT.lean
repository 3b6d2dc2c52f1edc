/-
  Vectors' texts, in plain Lean. No program in sight.
-/
import Derived.Test.YthckagkciefliaaGreatDoorVcM
import Derived.Test.YthckagkciefliaaGreatDoorSpl
set_option linter.unusedVariables false
namespace Go.Proofs.YthckagkciefliaaGreatDoor.Vc
open Go AL Hx Dt Spl

def dots (l : List (Int × Int)) : List (List UInt8) := l.map fun p => (textD p.1 p.2).data.toList
def dash : ByteArray := ⟨#[45]⟩
def textV (l : List (Int × Int)) : ByteArray := if l = [] then dash else ⟨(joinC 44 (dots l)).toArray⟩
def ba (p : List UInt8) : ByteArray := ⟨p.toArray⟩
theorem ba_data (s : ByteArray) : ba s.data.toList = s := by unfold ba; cases s; simp
theorem ba_list (p : List UInt8) : (ba p).data.toList = p := by simp [ba]
def okV (s : ByteArray) : Prop := ∀ p ∈ pieces 44 s.data.toList, okP (ba p)
noncomputable def dotsOf (s : ByteArray) : List (Int × Int) := (pieces 44 s.data.toList).map fun p => (parseR (ba p), parseQ (ba p))
def okVec (s : ByteArray) : Prop := s = dash ∨ okV s ∧ dotsOf s = ofF (cntF (dotsOf s))
open Classical in
noncomputable def parseVE (s : ByteArray) : Int := if okVec s then 0 else 2
open Classical in
noncomputable def parseVL (s : ByteArray) : List (Int × Int) := if okVec s then (if s = dash then [] else dotsOf s) else []

theorem num_no44 {n : Int} : ∀ c ∈ (numS n).data.toList, c ≠ 44 := by
  intro c hc
  by_cases h : 0 ≤ n
  · have := num_digits h c hc
    rintro rfl
    exact absurd this.1 (by decide)
  · rw [numS_list] at hc
    unfold Lib.itoa at hc
    rw [if_pos (by omega)] at hc
    rcases List.mem_cons.1 hc with rfl | hc
    · decide
    · have := dec_digit _ c hc
      rintro rfl
      exact absurd this.1 (by decide)
theorem text_no44 (r q : Int) : ∀ c ∈ (textD r q).data.toList, c ≠ 44 := by
  intro c hc
  rw [text_list] at hc
  rcases List.mem_append.1 hc with h | h
  · exact num_no44 c h
  · rcases List.mem_cons.1 h with rfl | h
    · decide
    · exact num_no44 c h
theorem dots_free (l : List (Int × Int)) : ∀ p ∈ dots l, ∀ x ∈ p, x ≠ 44 := by
  intro p hp x hx
  obtain ⟨d, _, rfl⟩ := List.mem_map.1 hp
  exact text_no44 _ _ x hx
theorem dots_inj {l m : List (Int × Int)} (hl : ∀ p ∈ l, mayD p.1 p.2) (hm : ∀ p ∈ m, mayD p.1 p.2) (h : dots l = dots m) : l = m := by
  induction l generalizing m with
  | nil => cases m with
    | nil => rfl
    | cons q m => simp [dots] at h
  | cons p l ih => cases m with
    | nil => simp [dots] at h
    | cons q m =>
      simp only [dots, List.map_cons, List.cons.injEq] at h
      obtain ⟨h1, h2⟩ := h
      have hp := hl p (by simp)
      have hq := hm q (by simp)
      unfold mayD at hp hq
      have e := text_inj (r := p.1) (q := p.2) (r' := q.1) (q' := q.2) (by omega) (by omega) (by omega) (by omega) (ba_ext' h1)
      have e1 : p = q := Prod.ext e.1 e.2
      rw [e1, ih (fun x hx => hl x (by simp [hx])) (fun x hx => hm x (by simp [hx])) h2]

theorem cnt_ge {l : List (Int × Int)} {p : Int × Int} (hp : p ∈ l) (hm : mayD p.1 p.2) : p.2 ≤ cntF l p.1.toNat := by
  have mono : ∀ (l : List (Int × Int)) (g : Nat → Int) (r : Nat), g r ≤ l.foldl updF g r := by
    intro l
    induction l with
    | nil => intro g r; exact Int.le_refl _
    | cons q l ih =>
      intro g r
      refine Int.le_trans ?_ (ih (updF g q) r)
      unfold updF
      split <;> omega
  have go : ∀ (l : List (Int × Int)) (g : Nat → Int), p ∈ l → p.2 ≤ l.foldl updF g p.1.toNat := by
    intro l
    induction l with
    | nil => intro g h; cases h
    | cons q l ih =>
      intro g h
      rcases List.mem_cons.1 h with rfl | h
      · refine Int.le_trans ?_ (mono l (updF g p) p.1.toNat)
        unfold updF
        rw [if_pos ⟨hm, rfl⟩]
        omega
      · exact ih _ h
  exact go l _ hp
theorem of_ne {l : List (Int × Int)} (hne : l ≠ []) (hm : ∀ p ∈ l, mayD p.1 p.2) : ofF (cntF l) ≠ [] := by
  cases l with
  | nil => exact absurd rfl hne
  | cons p l =>
    have h1 := hm p (by simp)
    have h2 := cnt_ge (l := p :: l) (by simp) h1
    unfold mayD at h1
    intro e
    have : (((p.1.toNat : Nat) : Int), cntF (p :: l) p.1.toNat) ∈ ofF (cntF (p :: l)) := by
      unfold ofF ofK
      rw [List.mem_filterMap]
      exact ⟨p.1.toNat, List.mem_range.2 (by omega), by rw [if_pos (by omega)]⟩
    rw [e] at this
    cases this

theorem dotsOf_ne (s : ByteArray) : dotsOf s ≠ [] := fun h => by
  unfold dotsOf at h
  exact pieces_ne _ _ (List.map_eq_nil_iff.1 h)
theorem dotsOf_may {s : ByteArray} (h : okV s) : ∀ p ∈ dotsOf s, mayD p.1 p.2 := by
  intro p hp
  obtain ⟨x, hx, rfl⟩ := List.mem_map.1 hp
  exact (parse_back (h x hx)).1
theorem dotsOf_dots {s : ByteArray} (h : okV s) : dots (dotsOf s) = pieces 44 s.data.toList := by
  unfold dots dotsOf
  rw [List.map_map]
  conv => rhs; rw [← List.map_id (pieces 44 s.data.toList)]
  apply List.map_congr_left
  intro p hp
  show (textD (parseR (ba p)) (parseQ (ba p))).data.toList = p
  rw [(parse_back (h p hp)).2, ba_list]
theorem dash_not : ¬ okV dash := fun h => by
  have := h [45] (by simp [dash, pieces])
  have h1 := this.1
  exact absurd h1 (by decide)
theorem textV_ne {l : List (Int × Int)} (h : l ≠ []) : textV l = ba (joinC 44 (dots l)) := by unfold textV; rw [if_neg h]; rfl
theorem dots_ne {l : List (Int × Int)} (h : l ≠ []) : dots l ≠ [] := fun e => h (List.map_eq_nil_iff.1 e)
theorem text_pieces {l : List (Int × Int)} (h : l ≠ []) : pieces 44 (textV l).data.toList = dots l := by
  rw [textV_ne h, ba_list, pieces_join (dots_ne h) (dots_free l)]
/-- A text of dots, each in its place, is the text of the vector just if they are a vector. -/
theorem text_same {s : ByteArray} (h : okV s) : textV (ofF (cntF (dotsOf s))) = s ↔ dotsOf s = ofF (cntF (dotsOf s)) := by
  have hm := dotsOf_may h
  have hne := of_ne (dotsOf_ne s) hm
  constructor
  · intro e
    have e1 : pieces 44 s.data.toList = dots (ofF (cntF (dotsOf s))) := by
      conv => lhs; rw [← e]
      exact text_pieces hne
    rw [← dotsOf_dots h] at e1
    exact dots_inj hm (of_may (cnt_ok _) 32 (Nat.le_refl _)) e1
  · intro e
    rw [← e, textV_ne (dotsOf_ne s), dotsOf_dots h, join_pieces, ba_data]
/-- A vector's text is parsed as it. -/
theorem text_back {l : List (Int × Int)} (hne : l ≠ []) (hm : ∀ p ∈ l, mayD p.1 p.2) : okV (textV l) ∧ dotsOf (textV l) = l := by
  have one : ∀ p ∈ l, okP (textD p.1 p.2) ∧ parseR (textD p.1 p.2) = p.1 ∧ parseQ (textD p.1 p.2) = p.2 := fun p hp => by
    have h := hm p hp
    have h' := h
    unfold mayD at h'
    exact (parse_text (r := p.1) (q := p.2) (by omega) (by omega)).1 h
  refine ⟨?_, ?_⟩
  · intro p hp
    rw [text_pieces hne] at hp
    obtain ⟨d, hd, rfl⟩ := List.mem_map.1 hp
    show okP (ba (textD d.1 d.2).data.toList)
    rw [ba_data]
    exact (one d hd).1
  · unfold dotsOf
    rw [text_pieces hne]
    unfold dots
    rw [List.map_map]
    conv => rhs; rw [← List.map_id l]
    apply List.map_congr_left
    intro d hd
    show (parseR (ba (textD d.1 d.2).data.toList), parseQ (ba (textD d.1 d.2).data.toList)) = d
    rw [ba_data, (one d hd).2.1, (one d hd).2.2]
theorem parseV_ok {s : ByteArray} (h : okVec s) : parseVE s = 0 ∧ parseVL s = if s = dash then [] else dotsOf s := by
  unfold parseVE parseVL; rw [if_pos h, if_pos h]; exact ⟨rfl, rfl⟩
theorem parseV_bad {s : ByteArray} (h : ¬ okVec s) : parseVE s = 2 ∧ parseVL s = [] := by
  unfold parseVE parseVL; rw [if_neg h, if_neg h]; exact ⟨rfl, rfl⟩
theorem text_not_dash {l : List (Int × Int)} (hne : l ≠ []) (hm : ∀ p ∈ l, mayD p.1 p.2) : textV l ≠ dash := fun e => dash_not (by rw [← e]; exact (text_back hne hm).1)
/-- The text of a vector that was made of counts, parsed. -/
theorem parse_textV {g : Nat → Int} (hg : okF g) : parseVE (textV (ofF g)) = 0 ∧ parseVL (textV (ofF g)) = ofF g := by
  have hm := of_may hg 32 (Nat.le_refl _)
  by_cases h : ofF g = []
  · have e : textV (ofF g) = dash := by unfold textV; rw [if_pos h]
    have hok : okVec (textV (ofF g)) := .inl e
    obtain ⟨h1, h2⟩ := parseV_ok hok
    exact ⟨h1, by rw [h2, if_pos e, h]⟩
  · obtain ⟨b1, b2⟩ := text_back h hm
    have hok : okVec (textV (ofF g)) := .inr ⟨b1, by rw [b2, cnt_of hg]⟩
    obtain ⟨h1, h2⟩ := parseV_ok hok
    exact ⟨h1, by rw [h2, if_neg (text_not_dash h hm), b2]⟩
/-- What is parsed may be, and has the very text. -/
theorem parseV_back {s : ByteArray} (h : okVec s) : parseVL s = ofF (cntF (parseVL s)) ∧ textV (ofF (cntF (parseVL s))) = s := by
  obtain ⟨_, h2⟩ := parseV_ok h
  rw [h2]
  split
  · rename_i e
    refine ⟨rfl, ?_⟩
    rw [e]
    rfl
  · rename_i hne
    rcases h with h | ⟨h3, h4⟩
    · exact absurd h hne
    · exact ⟨h4, (text_same h3).2 h4⟩

end Go.Proofs.YthckagkciefliaaGreatDoor.Vc
