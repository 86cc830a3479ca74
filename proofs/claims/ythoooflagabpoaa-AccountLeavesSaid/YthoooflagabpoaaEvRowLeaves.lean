/-
AccountLeaves tells true for every input: its row.
-/
import Derived.Test.YthoooflagabpoaaRows
import Derived.Test.YthoooflagabpoaaEvL30
import Derived.WalkKit
import Derived.ProofKit
import Derived.OpenShut
import Derived.ShutString
import Derived.ChangeOld
import Derived.Below
import Derived.SizedLaws
namespace Go.Proofs.Ythoooflagabpoaa.accountLeaves
open Go Go.Ev
open Go.ChangeShapes Go.WideShapes Go.ChangeAt Go.RowKit
set_option linter.unusedVariables false
set_option maxRecDepth 100000
theorem own : ownKnob Try.prog.godebug = none := by kernel_rfl
theorem laidOut : laidOutB Try.prog = true := by kernel_rfl
theorem law (args : List D) (h : ArgsWf Try.prog Try.f5.params.toList args) : ∃ hp, FnOK Try.prog 5 args [] (.pd (.bool true), hp) := by
  change ArgsWf Try.prog [28, 28] args at h
  obtain ⟨n0, xs0, ds0, rfl, h0, h⟩ := h
  obtain ⟨n1, xs1, ds1, rfl, h1, h⟩ := h
  subst h
  obtain ⟨a1, rfl, la1, wa1⟩ := wfv_nums Try.underlying28 Try.underlying5 h0
  obtain ⟨a2, rfl, la2, wa2⟩ := wfv_nums Try.underlying28 Try.underlying5 h1
  exact ent_true f5_ok (x := (a1, a2)) (by kernel_rfl) (leaves_pure a1 a2 la1 wa1 la2 wa2)
theorem lifted (os : Os) (started : os.Started) (H : Type) (enc : TypeId × Value → H) :
    ReturnsInHanded {} Try.checked os 5 .any (Rows.accountLeavesSpec.pre6 enc Try.prog Try.f5 Rows.accountLeavesRow.domain false) (Rows.accountLeavesSpec.post enc Try.prog Try.f5 false true false false) := by
  refine returnsInHanded_of_change_sized (C := Try.checked) own started (by kernel_rfl) Try.func5
    (ChangeSpec.witness6 (enc := enc) (C := Try.checked) false ⟨#[], #[.slice none 0 0, .slice none 0 0], []⟩ 12 (by kernel_rfl) (by kernel_rfl) (by kernel_rfl) (by kernel_rfl)) ?_
  intro W base args ds gs before hval0 hW hcnd hsz0 _
  have hval : ∀ (j : Nat) t v, Try.f5.params[j]? = some t → args[j]? = some v → Value.okWide Try.prog W .any base t v := hval0
  have hW' := hW
  obtain ⟨p, q, hA0, hV, rfl, hfz, hnd⟩ := hW
  have hA : DataW.TrodAll enc Try.prog W 0 (fun _ => true) true Try.f5.params.toList args.toList ds p := hA0
  obtain ⟨rfl, rfl⟩ := trodVars_none hV
  have hts : ∀ t ∈ Try.f5.params.toList, openT Try.prog 40 t = true ∧ Try.prog.readableRec t = true ∧ t < Try.prog.types.size := by
    intro t ht
    change t ∈ [28, 28] at ht
    simp only [List.mem_cons, List.not_mem_nil, or_false] at ht
    rcases ht with rfl | rfl <;> exact ⟨by kernel_rfl, by kernel_rfl, of_decide_eq_true (by kernel_rfl)⟩
  have hrun := law_calls (enc := enc) (W := W) laidOut Try.func5 rfl (by decide) hts law hval hA
  have hA1 := hA
  rw [Try.params5] at hA1
  obtain ⟨v0, vs0, d0, ds0, p0, q0, hargs, rfl, rfl, h0, r0⟩ := trodAll_cons hA1
  obtain ⟨v1, vs1, d1, ds1, p1, q1, rfl, rfl, rfl, h1, r1⟩ := trodAll_cons r0
  obtain ⟨rfl, rfl, rfl⟩ := trodAll_nil r1
  refine hrun.mono fun e W' ⟨he, bel, ht⟩ => ?_
  subst he
  exact ⟨_, rfl, _, _, _, [], _, [], hW', trodAll_mk1 (shut_bool Try.underlying4 _), ht, rfl, bel.frame _, fun h => by cases h⟩
theorem over : Rows.accountLeavesRow.holds Try.pinned (OpenSpec.ofChange Rows.accountLeavesSpec) :=
  OpenClaim.holds_of_wide 5 Try.f5 rfl rfl rfl rfl rfl rfl rfl ⟨rfl, rfl, rfl, rfl, rfl⟩ rfl rfl rfl rfl rfl (by kernel_rfl) Try.func5 (by kernel_rfl)
    (of_decide_eq_true (by kernel_rfl)) (by unfold Func.isWrapper; first | (rw [if_pos (by decide +kernel)]; kernel_rfl) | (rw [if_neg (by decide +kernel)]; exact ⟨rfl, rfl⟩))
    (fun os started H enc _ => lifted os started H enc)
theorem proved : Rows.AccountLeavesSaid := over
end Go.Proofs.Ythoooflagabpoaa.accountLeaves
namespace Go.Proofs.Ythoooflagabpoaa
/-- AccountLeaves tells true for every input. -/
theorem accountLeaves_holds : Rows.AccountLeavesSaid := accountLeaves.proved
#print axioms accountLeaves_holds
end Go.Proofs.Ythoooflagabpoaa

