/-
  What the laws of hexa ask first, and how a digest's text is parsed as it.
-/
import Derived.Test.YtlogcpcdkhmjoaaDoorHxParse
import Derived.Test.YtlogcpcdkhmjoaaDoorHxRead
set_option linter.unusedVariables false
set_option linter.unusedSectionVars false
namespace Go.Proofs.YtlogcpcdkhmjoaaDoor.Hx
open Go AL

theorem intsOf_len (s : ByteArray) : (intsOf s).length = s.size := by
  unfold intsOf; rw [List.length_map, Array.length_toList]; rfl
theorem hexL_get : ∀ (xs : List Int) (i : Nat), i < xs.length → (hexL xs).getD (2 * i) 0 = fig (xs.getD i 0 / 16) ∧ (hexL xs).getD (2 * i + 1) 0 = fig (xs.getD i 0 % 16)
  | [], i, h => absurd h (Nat.not_lt_zero _)
  | x :: xs, 0, _ => ⟨rfl, rfl⟩
  | x :: xs, i + 1, h => by
    have := hexL_get xs i (by simpa using h)
    rw [show 2 * (i + 1) = 2 * i + 1 + 1 by omega]
    simpa [hexL] using this
theorem hexL_range {xs : List Int} (hx : ∀ x ∈ xs, 0 ≤ x ∧ x < 256) : ∀ y ∈ hexL xs, 0 ≤ y ∧ y < 256 := by
  induction xs with
  | nil => intro y hy; simp [hexL] at hy
  | cons x xs ih =>
    intro y hy
    have h1 := hx x (by simp)
    simp only [hexL, List.mem_cons] at hy
    rcases hy with rfl | rfl | hy
    · have := fig_range (n := x / 16) (by omega) (by omega); omega
    · have := fig_range (n := x % 16) (by omega) (by omega); omega
    · exact ih (fun z hz => hx z (by simp [hz])) y hy
/-- A digest's text is parsed as it. -/
theorem parse_text {xs : List Int} (hl : xs.length = 32) (hx : ∀ x ∈ xs, 0 ≤ x ∧ x < 256) : parseE (intsOf (textS xs)) = 0 ∧ parseD (intsOf (textS xs)) = xs ∧ (textS xs).size = 64 := by
  have e : intsOf (textS xs) = hexL xs := intsOf_bytesOf (hexL_range hx)
  have hlen : (hexL xs).length = 64 := by rw [hexL_length]; omega
  have hd : ∀ i, i < 32 → hexd ((hexL xs).getD (2 * i) 0) ∧ hexd ((hexL xs).getD (2 * i + 1) 0) ∧ full (hexL xs) i = xs.getD i 0 := fun i hi => by
    have hb := byteAt hx i
    obtain ⟨g1, g2⟩ := hexL_get xs i (by omega)
    obtain ⟨n1, n2⟩ := nv_fig (n := xs.getD i 0 / 16) (by omega) (by omega)
    obtain ⟨m1, m2⟩ := nv_fig (n := xs.getD i 0 % 16) (by omega) (by omega)
    refine ⟨by rw [g1]; exact n2, by rw [g2]; exact m2, ?_⟩
    unfold full
    rw [g1, g2, n1, m1]
    omega
  have hok : parseOK (hexL xs) := ⟨hlen, fun i hi => by
    rcases Nat.mod_two_eq_zero_or_one i with h | h
    · have := (hd (i / 2) (by omega)).1
      rwa [show 2 * (i / 2) = i by omega] at this
    · have := (hd (i / 2) (by omega)).2.1
      rwa [show 2 * (i / 2) + 1 = i by omega] at this⟩
  rw [e]
  obtain ⟨h1, h2⟩ := parse_ok hok
  refine ⟨h1, ?_, ?_⟩
  · rw [h2]
    unfold pd
    apply List.ext_getElem?
    intro i
    rw [List.getElem?_map]
    rcases Nat.lt_or_ge i 32 with h | h
    · rw [List.getElem?_range h]
      have := (hd i h).2.2
      rw [List.getD_eq_getElem?_getD, List.getElem?_eq_getElem (by omega)] at this
      rw [List.getElem?_eq_getElem (by omega)]
      simpa using this
    · rw [List.getElem?_eq_none (by simpa using h), List.getElem?_eq_none (by omega)]
      rfl
  · rw [← intsOf_len, e]; exact hlen
/-- What is parsed has the very text. -/
theorem text_parse {s : ByteArray} (h : parseE (intsOf s) = 0) : textS (parseD (intsOf s)) = s := by
  have hok : parseOK (intsOf s) := Classical.byContradiction fun hn => by rw [(parse_no hn).1] at h; omega
  rw [(parse_ok hok).2]
  obtain ⟨hl, hd⟩ := hok
  have hfl : (pd (intsOf s)).length = 32 := by simp [pd]
  have hg : ∀ i, i < 32 → (pd (intsOf s)).getD i 0 = full (intsOf s) i := fun i hi => by
    unfold pd
    rw [List.getD_eq_getElem?_getD, List.getElem?_map, List.getElem?_range hi]
    rfl
  have : hexL (pd (intsOf s)) = intsOf s := by
    apply List.ext_getElem?
    intro i
    have hlen : (hexL (pd (intsOf s))).length = 64 := by rw [hexL_length, hfl]
    rcases Nat.lt_or_ge i 64 with hi | hi
    · have h1 : (hexL (pd (intsOf s))).getD i 0 = (intsOf s).getD i 0 := by
        obtain ⟨g1, g2⟩ := hexL_get (pd (intsOf s)) (i / 2) (by omega)
        rw [hg (i / 2) (by omega)] at g1 g2
        unfold full at g1 g2
        have a1 := nv_range (hd (2 * (i / 2)) (by omega))
        have a2 := nv_range (hd (2 * (i / 2) + 1) (by omega))
        rcases Nat.mod_two_eq_zero_or_one i with h | h
        · rw [show 2 * (i / 2) = i by omega] at *
          rw [g1, show (16 * nv ((intsOf s).getD i 0) + nv ((intsOf s).getD (i + 1) 0)) / 16 = nv ((intsOf s).getD i 0) by omega]
          exact fig_nv (hd i hi)
        · rw [show 2 * (i / 2) + 1 = i by omega] at *
          rw [g2, show (16 * nv ((intsOf s).getD (2 * (i / 2)) 0) + nv ((intsOf s).getD i 0)) % 16 = nv ((intsOf s).getD i 0) by omega]
          exact fig_nv (hd i hi)
      rw [List.getD_eq_getElem?_getD, List.getD_eq_getElem?_getD, List.getElem?_eq_getElem (by omega), List.getElem?_eq_getElem (by omega)] at h1
      rw [List.getElem?_eq_getElem (by omega), List.getElem?_eq_getElem (by omega)]
      simpa using h1
    · rw [List.getElem?_eq_none (by omega), List.getElem?_eq_none (by omega)]
  unfold textS
  rw [this, bytesOf_intsOf]
theorem textS_inj {xs ys : List Int} (hl : xs.length = 32) (hx : ∀ x ∈ xs, 0 ≤ x ∧ x < 256) (gl : ys.length = 32) (hy : ∀ x ∈ ys, 0 ≤ x ∧ x < 256) (h : textS xs = textS ys) : xs = ys := by
  have a := (parse_text hl hx).2.1
  have b := (parse_text gl hy).2.1
  rw [h, b] at a
  exact a.symm
theorem pd_range {xs : List Int} (h : parseOK xs) : ∀ x ∈ pd xs, 0 ≤ x ∧ x < 256 := by
  intro x hx
  unfold pd at hx
  obtain ⟨i, hi, rfl⟩ := List.mem_map.1 hx
  have hi := List.mem_range.1 hi
  have a1 := nv_range (h.2 (2 * i) (by omega))
  have a2 := nv_range (h.2 (2 * i + 1) (by omega))
  unfold full
  omega
theorem parseD_ok (xs : List Int) : (parseD xs).length = 32 ∧ ∀ x ∈ parseD xs, 0 ≤ x ∧ x < 256 := by
  by_cases h : parseOK xs
  · rw [(parse_ok h).2]; exact ⟨by simp [pd], pd_range h⟩
  · rw [(parse_no h).2]
    refine ⟨by simp, fun x hx => ?_⟩
    have := (List.mem_replicate.1 hx).2; omega
theorem parseE_cases (xs : List Int) : parseE xs = 0 ∨ parseE xs = 2 ∧ parseD xs = List.replicate 32 0 := by
  by_cases h : parseOK xs
  · exact .inl (parse_ok h).1
  · exact .inr ⟨(parse_no h).1, (parse_no h).2⟩

/-- Is 7, or 07, a number's text? -/
theorem num7 : isNum ⟨#[55]⟩ 7 := ⟨by decide, by decide, by rw [numS_small (by decide) (by decide)]; decide⟩
theorem num07 (v : Int) : ¬ isNum ⟨#[48, 55]⟩ v := fun h => by
  have e : foldN (intsOf ⟨#[48, 55]⟩) 0 = v := by
    have := foldN_num h.1 h.2.1
    rwa [← h.2.2] at this
  have e7 : foldN (intsOf ⟨#[48, 55]⟩) 0 = 7 := by decide
  have hv : v = 7 := by rw [← e, e7]
  subst hv
  have := h.2.2.trans num7.2.2.symm
  have h2 := congrArg ByteArray.size this
  exact absurd h2 (by decide)
theorem num12 : numS (-12) = ⟨#[45, 49, 50]⟩ := by
  rw [numS_nbig (by decide), show -(- -12 / 10) = (-1 : Int) by decide, numS_nsmall (by decide) (by decide)]
  decide
/-- The digest that the first law asks of. -/
def d255 : List Int := 255 :: List.replicate 31 0
theorem ff255 : (textS d255).extract 0 2 = ⟨#[102, 102]⟩ := by decide +kernel

section
variable [Globs]
set_option maxHeartbeats 2000000 in
set_option maxRecDepth 10000 in
theorem awake_prog (hG : NumG) : ACalls Tryd.prog 20 [] [] (fun r h => r = .tt ∧ h = []) := by
  have hl : d255.length = 32 := by decide
  have hx : ∀ x ∈ d255, 0 ≤ x ∧ x < 256 := by decide
  have ht := text_prog d255 hl hx
  obtain ⟨p1, p2, p3⟩ := parse_text hl hx
  have hp := parse_prog (textS d255) (by omega)
  have hr7 := read_prog hG ⟨#[55]⟩ 6 (by decide)
  have hr07 := read_prog hG ⟨#[48, 55]⟩ 9 (by decide)
  have hn := number_prog hG (-12) (by decide) (by decide)
  have e7 := (read_over (most := 6) num7 (by decide)).1
  have e07 := (read_none (most := 9) num07).1
  have en := num12
  have hff := ff255
  unfold ParseR at hp
  unfold ReadR at hr7 hr07
  rw [p1, p2] at hp
  generalize textS d255 = T at *
  generalize readV ⟨#[55]⟩ 6 = V7 at *
  generalize readE ⟨#[55]⟩ 6 = E7 at *
  generalize readV ⟨#[48, 55]⟩ 9 = V07 at *
  generalize readE ⟨#[48, 55]⟩ 9 = E07 at *
  generalize numS (-12) = N12 at *
  have h64 : (T.size : Int) = 64 := by omega
  refine rcalls Tryd.func20 rfl (by decide) ?_
  refine ⟨rfl, ?_⟩
  refine ⟨rfl, by decide, ?_⟩
  refine ⟨by decide, ?_⟩
  refine ⟨[], _, ht, ?_⟩
  rintro r h ⟨rfl, rfl⟩
  refine ⟨.inl rfl, ?_⟩
  refine ⟨[], _, hp, ?_⟩
  rintro r h ⟨rfl, rfl⟩
  refine ⟨.inl rfl, ?_⟩
  refine ⟨rfl, ?_⟩
  refine ⟨rfl, by decide, ?_⟩
  refine ⟨[], _, hr7, ?_⟩
  rintro r h ⟨rfl, rfl⟩
  refine ⟨.inl rfl, ?_⟩
  refine ⟨[], _, hr07, ?_⟩
  rintro r h ⟨rfl, rfl⟩
  refine ⟨.inl rfl, ?_⟩
  refine ⟨fun _ => ?_, fun e => absurd h64 (no e)⟩
  refine ⟨⟨by decide, by omega⟩, ?_⟩
  refine ⟨fun _ => ?_, fun e => absurd hff (no e)⟩
  refine ⟨by decide, ?_⟩
  refine ⟨by decide, ?_⟩
  refine ⟨by decide, by decide, ?_⟩
  refine ⟨fun _ => ?_, fun e => absurd (by decide) (no e)⟩
  refine ⟨fun _ => ?_, fun e => absurd rfl (no e)⟩
  refine ⟨fun _ => ?_, fun e => absurd e7 (no e)⟩
  refine ⟨fun _ => ?_, fun e => absurd e07 (no e)⟩
  refine ⟨[], _, hn, ?_⟩
  rintro r h ⟨rfl, rfl⟩
  refine ⟨.inl rfl, ?_⟩
  exact ⟨[], [], .tt, lehN _, leTT (decide_eq_true en), rfl, rfl⟩

end
end Go.Proofs.YtlogcpcdkhmjoaaDoor.Hx
