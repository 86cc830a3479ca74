/-
Chapter 30, AccountNames: the tables that the row lists.
-/
import Derived.Test.YthoooflagabpoaaDoorEvPe30da
import Derived.Test.YthoooflagabpoaaDoorEvGlob
import Derived.Test.YthoooflagabpoaaDoorRows
namespace Go.Proofs.YthoooflagabpoaaDoor
open Go Go.Ev Go.Px
set_option maxRecDepth 100000
theorem globs_ok {W : World} (h : laidMetH Tryd.prog Rows.accountNamesRow.laid W) : GlobOk (· < W.heap.size) W := by
  rw [MakeChecks.laidMetH_plain _ _ _ (by kernel_rfl)] at h
  have t0 : Lib.TabIs Tryd.prog W "math/bits.deBruijn32tab" .u8 [0, 1, 28, 2, 29, 14, 24, 3, 30, 22, 20, 15, 25, 17, 4, 8, 31, 27, 13, 23, 21, 19, 16, 7, 26, 12, 18, 6, 11, 5, 10, 9] := Lib.tabIs_of_head (g := 2) (by kernel_rfl) (by kernel_rfl) Tryd.underlying139 Tryd.underlying5 (by kernel_rfl) (by kernel_rfl) h
  replace h := h.tail
  have t1 : Lib.TabIs Tryd.prog W "math/bits.deBruijn64tab" .u8 [0, 1, 56, 2, 57, 49, 28, 3, 61, 58, 42, 50, 38, 29, 17, 4, 62, 47, 59, 36, 45, 43, 51, 22, 53, 39, 33, 30, 24, 18, 12, 5, 63, 55, 48, 27, 60, 41, 37, 16, 46, 35, 44, 21, 52, 32, 23, 11, 54, 26, 40, 15, 34, 20, 31, 10, 25, 14, 19, 9, 13, 8, 7, 6] := Lib.tabIs_of_head (g := 3) (by kernel_rfl) (by kernel_rfl) Tryd.underlying140 Tryd.underlying5 (by kernel_rfl) (by kernel_rfl) h
  replace h := h.tail
  have t2 : Lib.TabIs Tryd.prog W "internal/strconv.uint64pow10" .u64 [1, 10, 100, 1000, 10000, 100000, 1000000, 10000000, 100000000, 1000000000, 10000000000, 100000000000, 1000000000000, 10000000000000, 100000000000000, 1000000000000000, 10000000000000000, 100000000000000000, 1000000000000000000, 10000000000000000000] := Lib.tabIs_of_head (g := 0) (by kernel_rfl) (by kernel_rfl) Tryd.underlying121 Tryd.underlying22 (by kernel_rfl) (by kernel_rfl) h
  replace h := h.tail
  intro g x hg
  change (if g = 0 then _ else if g = 2 then _ else if g = 3 then _ else _) = _ at hg
  split at hg
  · rename_i e
    subst e
    cases hg
    rw [tabPow10_eq]
    exact glob_tab (by kernel_rfl) (by decide) t2
  split at hg
  · rename_i e
    subst e
    cases hg
    rw [tabBruijn32_eq]
    exact glob_tab (by kernel_rfl) (by decide) t0
  split at hg
  · rename_i e
    subst e
    cases hg
    rw [tabBruijn64_eq]
    exact glob_tab (by kernel_rfl) (by decide) t1
  · cases hg
end Go.Proofs.YthoooflagabpoaaDoor
