/-
Package variables that a row lists: from what the row gives to what the evaluator asks.
-/
import Derived.Test.YtijjelcejpikiaaGreatDoorEvOpen
import Derived.Lib.LaidTab
import Derived.Stop.LaidErr
import Derived.MakeChecks
namespace Go.Ev
variable [Globs]
set_option linter.unusedSectionVars false
/-- A table of integers. -/
theorem glob_tab {P : Program} {W : World} {name : String} {g : Nat} {k : IntKind} {zs : List Int} (hg : P.globalNamed name = some g) (hz : 0 < zs.length) (h : Lib.TabIs P W name k zs) :
    ∃ u, RD (· < W.heap.size) W (.arr k zs.length zs) u ∧ g < W.heap.size ∧ CellsAt W g 0 u.cells.toList := by
  have hc : ∀ i, W.cell? ⟨g, i, none⟩ = ((zs.map fun z => Value.int k z).toArray)[i]? := fun i => World.var?_cell hg h i
  have hcs : (Value.agg (zs.map (Value.int k)).toArray).cells = (zs.map (Value.int k)).toArray := rfl
  refine ⟨_, .arr k zs.length zs rfl, ?_, ?_⟩
  · have h0 := hc 0
    rcases Nat.lt_or_ge g W.heap.size with h1 | h1
    · exact h1
    · exfalso
      have : W.cell? ⟨g, 0, none⟩ = none := by simp [World.cell?, Array.getElem?_eq_none h1]
      rw [this] at h0
      have := (Array.getElem?_eq_none_iff.1 h0.symm)
      simp at this
      simp [this] at hz
  · intro j v hv
    rw [hcs] at hv
    rw [Nat.zero_add, hc j]
    simpa using hv
end Go.Ev
