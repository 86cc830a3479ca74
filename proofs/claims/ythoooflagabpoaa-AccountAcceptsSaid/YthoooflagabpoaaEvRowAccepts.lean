/-
AccountAccepts tells true for every input: its row.
-/
import Derived.Test.YthoooflagabpoaaRows
import Derived.Test.YthoooflagabpoaaEvX30
import Derived.WalkKit
import Derived.ProofKit
import Derived.OpenShut
import Derived.ShutString
import Derived.ChangeOld
import Derived.Below
import Derived.SizedLaws
namespace Go.Proofs.Ythoooflagabpoaa.accountAccepts
open Go Go.Ev
open Go.ChangeShapes Go.WideShapes Go.ChangeAt Go.RowKit
set_option linter.unusedVariables false
set_option maxRecDepth 100000
theorem own : ownKnob Try.prog.godebug = none := by kernel_rfl
theorem laidOut : laidOutB Try.prog = true := by kernel_rfl
theorem law (args : List D) (h : ArgsWf Try.prog Try.f4.params.toList args) : ∃ hp, FnOK Try.prog 4 args [] (.pd (.bool true), hp) := by
  change ArgsWf Try.prog [22, 3, 3, 3, 3] args at h
  obtain ⟨n0, xs0, ds0, rfl, h0, h⟩ := h
  obtain ⟨n1, xs1, ds1, rfl, h1, h⟩ := h
  obtain ⟨n2, xs2, ds2, rfl, h2, h⟩ := h
  obtain ⟨n3, xs3, ds3, rfl, h3, h⟩ := h
  obtain ⟨n4, xs4, ds4, rfl, h4, h⟩ := h
  subst h
  obtain ⟨a1, rfl, la1, wa1⟩ := wfv_nums Try.underlying22 Try.underlying3 h0
  obtain ⟨a2, rfl, wa2⟩ := wfv_int Try.underlying3 h1
  obtain ⟨a3, rfl, wa3⟩ := wfv_int Try.underlying3 h2
  obtain ⟨a4, rfl, wa4⟩ := wfv_int Try.underlying3 h3
  obtain ⟨a5, rfl, wa5⟩ := wfv_int Try.underlying3 h4
  exact ent_true f4_ok (x := (a1, a2, a3, a4, a5)) (by kernel_rfl) (accepts_pure a1 a2 a3 a4 a5 la1 wa1 wa2 wa3 wa4 wa5)
theorem lifted (os : Os) (started : os.Started) (H : Type) (enc : TypeId × Value → H) :
    ReturnsInHanded {} Try.checked os 4 .any (Rows.accountAcceptsSpec.pre6 enc Try.prog Try.f4 Rows.accountAcceptsRow.domain false) (Rows.accountAcceptsSpec.post enc Try.prog Try.f4 false true false false) := by
  refine returnsInHanded_of_change_sized (C := Try.checked) own started (by kernel_rfl) Try.func4
    (ChangeSpec.witness6 (enc := enc) (C := Try.checked) false ⟨#[], #[.slice none 0 0, .int .i64 0, .int .i64 0, .int .i64 0, .int .i64 0], []⟩ 12 (by kernel_rfl) (by kernel_rfl) (by kernel_rfl) (by kernel_rfl)) ?_
  intro W base args ds gs before hval0 hW hcnd hsz0 _
  have hval : ∀ (j : Nat) t v, Try.f4.params[j]? = some t → args[j]? = some v → Value.okWide Try.prog W .any base t v := hval0
  have hW' := hW
  obtain ⟨p, q, hA0, hV, rfl, hfz, hnd⟩ := hW
  have hA : DataW.TrodAll enc Try.prog W 0 (fun _ => true) true Try.f4.params.toList args.toList ds p := hA0
  obtain ⟨rfl, rfl⟩ := trodVars_none hV
  have hts : ∀ t ∈ Try.f4.params.toList, openT Try.prog 40 t = true ∧ Try.prog.readableRec t = true ∧ t < Try.prog.types.size := by
    intro t ht
    change t ∈ [22, 3, 3, 3, 3] at ht
    simp only [List.mem_cons, List.not_mem_nil, or_false] at ht
    rcases ht with rfl | rfl | rfl | rfl | rfl <;> exact ⟨by kernel_rfl, by kernel_rfl, of_decide_eq_true (by kernel_rfl)⟩
  have hrun := law_calls (enc := enc) (W := W) laidOut Try.func4 rfl (by decide) hts law hval hA
  have hA1 := hA
  rw [Try.params4] at hA1
  obtain ⟨v0, vs0, d0, ds0, p0, q0, hargs, rfl, rfl, h0, r0⟩ := trodAll_cons hA1
  obtain ⟨v1, vs1, d1, ds1, p1, q1, rfl, rfl, rfl, h1, r1⟩ := trodAll_cons r0
  obtain ⟨v2, vs2, d2, ds2, p2, q2, rfl, rfl, rfl, h2, r2⟩ := trodAll_cons r1
  obtain ⟨v3, vs3, d3, ds3, p3, q3, rfl, rfl, rfl, h3, r3⟩ := trodAll_cons r2
  obtain ⟨v4, vs4, d4, ds4, p4, q4, rfl, rfl, rfl, h4, r4⟩ := trodAll_cons r3
  obtain ⟨rfl, rfl, rfl⟩ := trodAll_nil r4
  refine hrun.mono fun e W' ⟨he, bel, ht⟩ => ?_
  subst he
  exact ⟨_, rfl, _, _, _, [], _, [], hW', trodAll_mk1 (shut_bool Try.underlying4 _), ht, rfl, bel.frame _, fun h => by cases h⟩
theorem over : Rows.accountAcceptsRow.holds Try.pinned (OpenSpec.ofChange Rows.accountAcceptsSpec) :=
  OpenClaim.holds_of_wide 4 Try.f4 rfl rfl rfl rfl rfl rfl rfl ⟨rfl, rfl, rfl, rfl, rfl⟩ rfl rfl rfl rfl rfl (by kernel_rfl) Try.func4 (by kernel_rfl)
    (of_decide_eq_true (by kernel_rfl)) (by unfold Func.isWrapper; first | (rw [if_pos (by decide +kernel)]; kernel_rfl) | (rw [if_neg (by decide +kernel)]; exact ⟨rfl, rfl⟩))
    (fun os started H enc _ => lifted os started H enc)
theorem proved : Rows.AccountAcceptsSaid := over
end Go.Proofs.Ythoooflagabpoaa.accountAccepts
namespace Go.Proofs.Ythoooflagabpoaa
/-- AccountAccepts tells true for every input. -/
theorem accountAccepts_holds : Rows.AccountAcceptsSaid := accountAccepts.proved
#print axioms accountAccepts_holds
end Go.Proofs.Ythoooflagabpoaa

