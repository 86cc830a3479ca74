/-
Chapter 15: the tables that the rows list.
-/
import Derived.Test.YtijjelcejpikiaaGreatDoorEvPe15b
import Derived.Test.YtijjelcejpikiaaGreatDoorEvGlob
import Derived.Lib.LaidU8T
import Derived.Test.YtijjelcejpikiaaGreatDoorRows
namespace Go.Proofs.YtijjelcejpikiaaGreatDoor
open Go Go.Ev Go.Px Go.Shelf Go.Lib
set_option maxRecDepth 100000
theorem glob_of_tabs {W : World} (h : Lib.Utf8Tabs 0 1 W) : GlobOk (· < W.heap.size) W := by
  have lt : ∀ (g : Nat) v, W.cell? ⟨g, 0, none⟩ = some v → g < W.heap.size := fun g v hv => by
    rcases Nat.lt_or_ge g W.heap.size with h1 | h1
    · exact h1
    · simp [World.cell?, Array.getElem?_eq_none h1] at hv
  have c1 : ∀ (k : IntKind) (zs : List Int), (Value.agg (zs.map (Value.int k)).toArray).cells.toList = zs.map (Value.int k) := fun k zs => rfl
  intro g x hg
  change (if g = 0 then _ else if g = 1 then _ else _) = _ at hg
  split at hg
  · rename_i e
    subst e
    cases hg
    refine ⟨_, .arr .u8 256 tabFirst (by rw [tabFirst_eq]; simp), lt 0 _ (h.1 0 (by omega)), ?_⟩
    intro j v hv
    rw [c1, tabFirst_eq] at hv
    simp only [List.getElem?_map, Option.map_eq_some_iff] at hv
    obtain ⟨_, ⟨c, hc, rfl⟩, rfl⟩ := hv
    obtain ⟨hj, e⟩ := List.getElem?_eq_some_iff.1 hc
    simp only [List.length_range] at hj
    simp only [List.getElem_range] at e
    subst e
    rw [Nat.zero_add]
    exact h.1 _ hj
  split at hg
  · rename_i e
    subst e
    cases hg
    refine ⟨_, .arr .u8 32 tabAccept (by rw [tabAccept_eq]; simp), lt 1 _ (h.2 0 (by omega)).1, ?_⟩
    intro j v hv
    rw [c1, tabAccept_eq] at hv
    simp only [List.getElem?_map, Option.map_eq_some_iff] at hv
    obtain ⟨_, ⟨c, hc, rfl⟩, rfl⟩ := hv
    obtain ⟨hj, e⟩ := List.getElem?_eq_some_iff.1 hc
    simp only [List.length_range] at hj
    simp only [List.getElem_range] at e
    subst e
    rw [Nat.zero_add]
    split
    · have := (h.2 (j / 2) (by omega)).1
      rwa [show 2 * (j / 2) = j by omega] at this
    · have := (h.2 (j / 2) (by omega)).2
      rwa [show 2 * (j / 2) + 1 = j by omega] at this
  · cases hg
theorem globs_ok {W : World} (h : laidMetH Tryz.prog Rows.credentialKeysRow.laid W) : GlobOk (· < W.heap.size) W := by
  rw [MakeChecks.laidMetH_plain _ _ _ (by kernel_rfl)] at h
  have h3 : VarReads Tryz.prog W "unicode/utf8.first" firstData := by
    have := Lib.laidMet.reads h (.tail _ (.head _))
    have e : (Rows.laid_unicode_utf8_first : DataW Unit) = firstData := by kernel_rfl
    rw [← e]
    exact this
  have h4 : VarReads Tryz.prog W "unicode/utf8.acceptRanges" acceptData := by
    have := Lib.laidMet.reads h (.head _)
    have e : (Rows.laid_unicode_utf8_acceptRanges : DataW Unit) = acceptData := by kernel_rfl
    rw [← e]
    exact this
  exact glob_of_tabs (utf8Tabs_of_readsT (U8Types.of196 Tryz.lays196) ⟨by kernel_rfl, by kernel_rfl, by kernel_rfl, by kernel_rfl, by kernel_rfl, by kernel_rfl, by kernel_rfl⟩ h3 h4)
end Go.Proofs.YtijjelcejpikiaaGreatDoor
