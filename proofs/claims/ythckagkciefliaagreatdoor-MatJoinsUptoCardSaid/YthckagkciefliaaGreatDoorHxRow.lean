/-
  What the laws' rows list gives the walks: strconv's two errors and its table of powers.
-/
import Derived.Test.YthckagkciefliaaGreatDoorHxNum
import Derived.Test.YthckagkciefliaaGreatDoorRow
import Derived.Stop.LaidErr
import Derived.Lib.LaidTab
import Derived.LaidMore
set_option linter.unusedVariables false
namespace Go.Proofs.YthckagkciefliaaGreatDoor.Hx
open Go AL

abbrev numGlobs : Globs := ⟨[(2, isIfc), (3, isIfc), (1, isTab)]⟩
theorem numG : @NumG numGlobs := @NumG.mk numGlobs (.head _) (.tail _ (.head _)) (.tail _ (.tail _ (.head _)))

theorem heap_of_var {P : Program} {W : World} {n : String} {g : Nat} {cs : Array Value} (hn : P.globalNamed n = some g) (hv : W.var? P n = some cs) : g < W.heap.size ∧ ∃ el fr, W.heap[g]? = some (.cells cs el fr) := by
  simp only [World.var?, hn, Option.bind_some] at hv
  split at hv
  · rename_i c el fr e
    cases hv
    exact ⟨(Array.getElem?_eq_some_iff.1 e).1, el, fr, e⟩
  · cases hv

theorem errRow (u : TypeId) (h : Tryz.prog.typeName? 3 u = some "*errors.errorString") : u = 201 :=
  typeName_ptr_named (nm := "errors.errorString") (by kernel_rfl) (by kernel_rfl) (by decide) u h

def laidNum : List (String × DataW Unit) := [("math/bits.deBruijn32tab", Rows.laid_math_bits_deBruijn32tab), ("math/bits.deBruijn64tab", Rows.laid_math_bits_deBruijn64tab), ("internal/strconv.uint64pow10", Rows.laid_internal_strconv_uint64pow10), ("strconv.ErrRange", Rows.laid_strconv_ErrRange), ("strconv.ErrSyntax", Rows.laid_strconv_ErrSyntax)]

theorem glob_num {W : World} (hL : laidMetH Tryz.prog laidNum W) : @Glob numGlobs (fun b => b < W.heap.size) W := by
  rw [MakeChecks.laidMetH_plain _ _ _ (by kernel_rfl)] at hL
  have h3 : laidMet Tryz.prog (("internal/strconv.uint64pow10", Lib.tabData .u64 Lib.pow10Tab) :: [("strconv.ErrRange", Rows.laid_strconv_ErrRange), ("strconv.ErrSyntax", Rows.laid_strconv_ErrSyntax)]) W := hL.tail.tail
  have ht := Lib.tabIs_of_head (P := Tryz.prog) (g := 1) (t := 183) (e := 170) (n := 20) (by kernel_rfl) (by kernel_rfl) (by kernel_rfl) (by kernel_rfl) (by kernel_rfl) (by kernel_rfl) h3
  have h4 := h3.tail
  obtain ⟨a1, s1, hv1, -, -, -⟩ := laid_sentinel (g := 3) (ti := 128) (tp := 201) (te := 203) (ts := 9) h4 (by kernel_rfl) (by kernel_rfl) Tryz.underlying128 errRow Tryz.underlying201 Tryz.underlying203 rfl rfl Tryz.underlying9 (by kernel_rfl) (by kernel_rfl)
  obtain ⟨a0, s0, hv0, -, -, -⟩ := laid_sentinel (g := 2) (ti := 128) (tp := 201) (te := 203) (ts := 9) h4.tail (by kernel_rfl) (by kernel_rfl) Tryz.underlying128 errRow Tryz.underlying201 Tryz.underlying203 rfl rfl Tryz.underlying9 (by kernel_rfl) (by kernel_rfl)
  intro g hg
  have hg : g ∈ [(2, isIfc), (3, isIfc), (1, isTab)] := hg
  simp only [List.mem_cons, List.not_mem_nil, or_false] at hg
  rcases hg with rfl | rfl | rfl
  · obtain ⟨h1, el, fr, h2⟩ := heap_of_var (P := Tryz.prog) (by kernel_rfl) hv0
    exact ⟨h1, _, el, fr, h2, _, _, rfl⟩
  · obtain ⟨h1, el, fr, h2⟩ := heap_of_var (P := Tryz.prog) (by kernel_rfl) hv1
    exact ⟨h1, _, el, fr, h2, _, _, rfl⟩
  · obtain ⟨h1, el, fr, h2⟩ := heap_of_var (P := Tryz.prog) (by kernel_rfl) ht
    exact ⟨h1, _, el, fr, h2, rfl⟩

end Go.Proofs.YthckagkciefliaaGreatDoor.Hx
