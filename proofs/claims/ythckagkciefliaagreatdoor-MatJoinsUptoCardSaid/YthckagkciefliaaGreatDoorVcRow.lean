/-
  What the vectors' laws' rows list gives the walks.
-/
import Derived.Test.YthckagkciefliaaGreatDoorHxRow
set_option linter.unusedVariables false
namespace Go.Proofs.YthckagkciefliaaGreatDoor.Hx
open Go AL

def laidVec : List (String × DataW Unit) := [("math/bits.deBruijn32tab", Rows.laid_math_bits_deBruijn32tab), ("math/bits.deBruijn64tab", Rows.laid_math_bits_deBruijn64tab), ("internal/strconv.uint64pow10", Rows.laid_internal_strconv_uint64pow10), ("unicode/utf8.acceptRanges", Rows.laid_unicode_utf8_acceptRanges), ("strconv.ErrRange", Rows.laid_strconv_ErrRange), ("strconv.ErrSyntax", Rows.laid_strconv_ErrSyntax), ("unicode/utf8.first", Rows.laid_unicode_utf8_first)]

theorem glob_vec {W : World} (hL : laidMetH Tryz.prog laidVec W) : @Glob numGlobs (fun b => b < W.heap.size) W := by
  rw [MakeChecks.laidMetH_plain _ _ _ (by kernel_rfl)] at hL
  have h3 : laidMet Tryz.prog (("internal/strconv.uint64pow10", Lib.tabData .u64 Lib.pow10Tab) :: [("unicode/utf8.acceptRanges", Rows.laid_unicode_utf8_acceptRanges), ("strconv.ErrRange", Rows.laid_strconv_ErrRange), ("strconv.ErrSyntax", Rows.laid_strconv_ErrSyntax), ("unicode/utf8.first", Rows.laid_unicode_utf8_first)]) W := hL.tail.tail
  have ht := Lib.tabIs_of_head (P := Tryz.prog) (g := 1) (t := 183) (e := 170) (n := 20) (by kernel_rfl) (by kernel_rfl) (by kernel_rfl) (by kernel_rfl) (by kernel_rfl) (by kernel_rfl) h3
  have h4 := h3.tail.tail
  obtain ⟨a1, s1, hv1, -, -, -⟩ := laid_sentinel (g := 3) (ti := 128) (tp := 201) (te := 203) (ts := 9) h4 (by kernel_rfl) (by kernel_rfl) Tryz.underlying128 errRow Tryz.underlying201 Tryz.underlying203 rfl rfl Tryz.underlying9 (by kernel_rfl) (by kernel_rfl)
  obtain ⟨a0, s0, hv0, -, -, -⟩ := laid_sentinel (g := 2) (ti := 128) (tp := 201) (te := 203) (ts := 9) h4.tail (by kernel_rfl) (by kernel_rfl) Tryz.underlying128 errRow Tryz.underlying201 Tryz.underlying203 rfl rfl Tryz.underlying9 (by kernel_rfl) (by kernel_rfl)
  intro g hg
  have hg : g ∈ [(2, isIfc), (3, isIfc), (1, isTab)] := hg
  simp only [List.mem_cons, List.not_mem_nil, or_false] at hg
  rcases hg with rfl | rfl | rfl
  · obtain ⟨h1, el, fr, h2⟩ := heap_of_var (P := Tryz.prog) (by kernel_rfl) hv0
    exact ⟨h1, _, el, fr, h2, _, _, rfl⟩
  · obtain ⟨h1, el, fr, h2⟩ := heap_of_var (P := Tryz.prog) (by kernel_rfl) hv1
    exact ⟨h1, _, el, fr, h2, _, _, rfl⟩
  · obtain ⟨h1, el, fr, h2⟩ := heap_of_var (P := Tryz.prog) (by kernel_rfl) ht
    exact ⟨h1, _, el, fr, h2, rfl⟩

end Go.Proofs.YthckagkciefliaaGreatDoor.Hx
