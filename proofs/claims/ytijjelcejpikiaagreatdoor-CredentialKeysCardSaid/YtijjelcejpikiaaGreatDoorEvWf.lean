/-
Well-formed arguments, taken apart by their types.
-/
import Derived.Test.YtijjelcejpikiaaGreatDoorEvHoare
import Derived.WalkKit
import Derived.ProofKit
import Derived.OpenShut
import Derived.SizedLaws
set_option linter.unusedVariables false
set_option linter.unusedSimpArgs false
namespace Go.Ev
variable [Globs]
set_option linter.unusedSectionVars false
section
variable {P : Program} {n : Nat} {t e : TypeId} {xs : List PD}
theorem wfv_int {k : IntKind} (hu : P.underlying t = some (.int k)) (h : WfV P n t xs) : ∃ m, xs = [.int k m] ∧ (Lit.int k m).wf = true := by
  cases n with
  | zero => exact h.elim
  | succ n => simpa only [WfV, hu] using h
theorem wfv_bool (hu : P.underlying t = some .bool) (h : WfV P n t xs) : ∃ b, xs = [.bool b] := by
  cases n with
  | zero => exact h.elim
  | succ n => simpa only [WfV, hu] using h
theorem wfv_str (hu : P.underlying t = some .string) (h : WfV P n t xs) : ∃ s : ByteArray, xs = [.str s] ∧ s.size ≤ maxLen := by
  cases n with
  | zero => exact h.elim
  | succ n => simpa only [WfV, hu] using h
theorem wfv_nums {k : IntKind} (hu : P.underlying t = some (.slice e)) (he : P.underlying e = some (.int k)) (h : WfV P n t xs) : ∃ zs : List Int, xs = [.nums k zs] ∧ zs.length ≤ maxLen ∧ ∀ m ∈ zs, (Lit.int k m).wf = true := by
  cases n with
  | zero => exact h.elim
  | succ n => simpa only [WfV, hu, he] using h
theorem wfv_sl (hu : P.underlying t = some (.slice e)) (he : ∀ k, P.underlying e ≠ some (.int k)) (h : WfV P n t xs) : ∃ m, ∃ ys : List PD, xs = [.sl (P.cellsOf e) ys] ∧ ys.length ≤ maxLen ∧ ∀ y ∈ ys, ElemWf (aggT P e) (WfV P m e) y := by
  cases n with
  | zero => exact h.elim
  | succ n =>
    unfold WfV at h
    rw [hu] at h
    dsimp only at h
    split at h
    · rename_i k hk; exact absurd hk (he k)
    · exact ⟨n, h⟩
theorem wfv_struct {fs : Array Field} (hu : P.underlying t = some (.struct fs)) (h : WfV P n t xs) : ∃ m, xs.length = P.cellsOf t ∧ ∀ (j : Nat) f, fs[j]? = some f → WfV P m f.type ((xs.drop f.offset).take (P.cellsOf f.type)) := by
  cases n with
  | zero => exact h.elim
  | succ n =>
    unfold WfV at h
    rw [hu] at h
    exact ⟨n, h.1, fun j f hj => h.2 f (by simpa using List.mem_of_getElem? (l := fs.toList) (i := j) (by simpa using hj))⟩
end
theorem wf_u8 {a : Int} (h : (Lit.int .u8 a).wf = true) : 0 ≤ a ∧ a ≤ 255 := by
  simp only [Lit.wf, Bool.and_eq_true, decide_eq_true_eq, show IntKind.min .u8 = 0 by decide, show IntKind.max .u8 = 255 by decide] at h
  exact h
theorem wf_u16 {a : Int} (h : (Lit.int .u16 a).wf = true) : 0 ≤ a ∧ a ≤ 65535 := by
  simp only [Lit.wf, Bool.and_eq_true, decide_eq_true_eq, show IntKind.min .u16 = 0 by decide, show IntKind.max .u16 = 65535 by decide] at h
  exact h
theorem wf_u32 {a : Int} (h : (Lit.int .u32 a).wf = true) : 0 ≤ a ∧ a ≤ 4294967295 := by
  simp only [Lit.wf, Bool.and_eq_true, decide_eq_true_eq, show IntKind.min .u32 = 0 by decide, show IntKind.max .u32 = 4294967295 by decide] at h
  exact h
theorem wf_u64 {a : Int} (h : (Lit.int .u64 a).wf = true) : 0 ≤ a ∧ a ≤ 18446744073709551615 := by
  simp only [Lit.wf, Bool.and_eq_true, decide_eq_true_eq, show IntKind.min .u64 = 0 by decide, show IntKind.max .u64 = 18446744073709551615 by decide] at h
  exact h
theorem wf_i64 {a : Int} (h : (Lit.int .i64 a).wf = true) : -9223372036854775808 ≤ a ∧ a ≤ 9223372036854775807 := by
  simp only [Lit.wf, Bool.and_eq_true, decide_eq_true_eq, show IntKind.min .i64 = -9223372036854775808 by decide, show IntKind.max .i64 = 9223372036854775807 by decide] at h
  exact h
end Go.Ev
