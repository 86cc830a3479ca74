/-
PolicyValidates tells true for every input: its row.
-/
import Derived.Test.YtjfnkoilnomofaaRows
import Derived.Test.YtjfnkoilnomofaaEvW31b
import Derived.WalkKit
import Derived.ProofKit
import Derived.OpenShut
import Derived.ShutString
import Derived.ChangeOld
import Derived.Below
import Derived.SizedLaws
namespace Go.Proofs.Ytjfnkoilnomofaa.policyValidates
open Go Go.Ev
open Go.ChangeShapes Go.WideShapes Go.ChangeAt Go.RowKit
set_option linter.unusedVariables false
set_option maxRecDepth 100000
theorem own : ownKnob Try.prog.godebug = none := by kernel_rfl
theorem laidOut : laidOutB Try.prog = true := by kernel_rfl
theorem len9 {xs : List PD} (h : xs.length = 9) : ∃ c0 c1 c2 c3 c4 c5 c6 c7 c8, xs = [c0, c1, c2, c3, c4, c5, c6, c7, c8] := by
  match xs, h with
  | [c0, c1, c2, c3, c4, c5, c6, c7, c8], _ => exact ⟨c0, c1, c2, c3, c4, c5, c6, c7, c8, rfl⟩
theorem law (args : List D) (h : ArgsWf Try.prog Try.f3.params.toList args) : ∃ hp, FnOK Try.prog 3 args [] (.pd (.bool true), hp) := by
  change ArgsWf Try.prog [24, 25] args at h
  obtain ⟨n0, xs0, ds0, rfl, h0, h⟩ := h
  obtain ⟨n1, xs1, ds1, rfl, h1, h⟩ := h
  subst h
  obtain ⟨ma1, ea1, ga1⟩ := wfv_struct Try.underlying24 h0
  obtain ⟨ca1_0, ca1_1, ca1_2, ca1_3, ca1_4, ca1_5, ca1_6, ca1_7, ca1_8, rfl⟩ : ∃ ca1_0 ca1_1 ca1_2 ca1_3 ca1_4 ca1_5 ca1_6 ca1_7 ca1_8, xs0 = [ca1_0, ca1_1, ca1_2, ca1_3, ca1_4, ca1_5, ca1_6, ca1_7, ca1_8] := len9 (ea1.trans (by kernel_rfl))
  have ha1_0 : WfV Try.prog ma1 3 [ca1_0] := ga1 0 _ rfl
  obtain ⟨a2, qa2, wa2⟩ := wfv_int Try.underlying3 ha1_0
  obtain rfl := List.head_eq_of_cons_eq qa2
  have ha1_1 : WfV Try.prog ma1 4 [ca1_1] := ga1 1 _ rfl
  obtain ⟨a3, qa3⟩ := wfv_bool Try.underlying4 ha1_1
  obtain rfl := List.head_eq_of_cons_eq qa3
  have ha1_2 : WfV Try.prog ma1 3 [ca1_2] := ga1 2 _ rfl
  obtain ⟨a4, qa4, wa4⟩ := wfv_int Try.underlying3 ha1_2
  obtain rfl := List.head_eq_of_cons_eq qa4
  have ha1_3 : WfV Try.prog ma1 3 [ca1_3] := ga1 3 _ rfl
  obtain ⟨a5, qa5, wa5⟩ := wfv_int Try.underlying3 ha1_3
  obtain rfl := List.head_eq_of_cons_eq qa5
  have ha1_4 : WfV Try.prog ma1 4 [ca1_4] := ga1 4 _ rfl
  obtain ⟨a6, qa6⟩ := wfv_bool Try.underlying4 ha1_4
  obtain rfl := List.head_eq_of_cons_eq qa6
  have ha1_5 : WfV Try.prog ma1 3 [ca1_5] := ga1 5 _ rfl
  obtain ⟨a7, qa7, wa7⟩ := wfv_int Try.underlying3 ha1_5
  obtain rfl := List.head_eq_of_cons_eq qa7
  have ha1_6 : WfV Try.prog ma1 4 [ca1_6] := ga1 6 _ rfl
  obtain ⟨a8, qa8⟩ := wfv_bool Try.underlying4 ha1_6
  obtain rfl := List.head_eq_of_cons_eq qa8
  have ha1_7 : WfV Try.prog ma1 22 [ca1_7] := ga1 7 _ rfl
  obtain ⟨a9, qa9, la9, wa9⟩ := wfv_nums Try.underlying22 Try.underlying31 ha1_7
  obtain rfl := List.head_eq_of_cons_eq qa9
  have ha1_8 : WfV Try.prog ma1 3 [ca1_8] := ga1 8 _ rfl
  obtain ⟨a10, qa10, wa10⟩ := wfv_int Try.underlying3 ha1_8
  obtain rfl := List.head_eq_of_cons_eq qa10
  obtain ⟨a11, rfl, la11, wa11⟩ := wfv_nums Try.underlying25 Try.underlying3 h1
  exact ent_true f3_ok (x := ((a2, a3, a4, a5, a6, a7, a8, a9, a10), a11)) (by kernel_rfl) (validates_pure a2 a3 a4 a5 a6 a7 a8 a9 a10 a11 wa2 wa4 wa5 wa7 la9 wa9 wa10 la11 wa11)
theorem lifted (os : Os) (started : os.Started) (H : Type) (enc : TypeId × Value → H) :
    ReturnsInHanded {} Try.checked os 3 .any (Rows.policyValidatesSpec.pre6 enc Try.prog Try.f3 Rows.policyValidatesRow.domain false) (Rows.policyValidatesSpec.post enc Try.prog Try.f3 false true false false) := by
  refine returnsInHanded_of_change_sized (C := Try.checked) own started (by kernel_rfl) Try.func3
    (ChangeSpec.witness6 (enc := enc) (C := Try.checked) false ⟨#[], #[.agg #[.int .i64 0, .bool false, .int .i64 0, .int .i64 0, .bool false, .int .i64 0, .bool false, .slice none 0 0, .int .i64 0], .slice none 0 0], []⟩ 12 (by kernel_rfl) (by kernel_rfl) (by kernel_rfl) (by kernel_rfl)) ?_
  intro W base args ds gs before hval0 hW hcnd hsz0 _
  have hval : ∀ (j : Nat) t v, Try.f3.params[j]? = some t → args[j]? = some v → Value.okWide Try.prog W .any base t v := hval0
  have hW' := hW
  obtain ⟨p, q, hA0, hV, rfl, hfz, hnd⟩ := hW
  have hA : DataW.TrodAll enc Try.prog W 0 (fun _ => true) true Try.f3.params.toList args.toList ds p := hA0
  obtain ⟨rfl, rfl⟩ := trodVars_none hV
  have hts : ∀ t ∈ Try.f3.params.toList, openT Try.prog 40 t = true ∧ Try.prog.readableRec t = true ∧ t < Try.prog.types.size := by
    intro t ht
    change t ∈ [24, 25] at ht
    simp only [List.mem_cons, List.not_mem_nil, or_false] at ht
    rcases ht with rfl | rfl <;> exact ⟨by kernel_rfl, by kernel_rfl, of_decide_eq_true (by kernel_rfl)⟩
  have hrun := law_calls (enc := enc) (W := W) laidOut Try.func3 rfl (by decide) hts law hval hA
  have hA1 := hA
  rw [Try.params3] at hA1
  obtain ⟨v0, vs0, d0, ds0, p0, q0, hargs, rfl, rfl, h0, r0⟩ := trodAll_cons hA1
  obtain ⟨v1, vs1, d1, ds1, p1, q1, rfl, rfl, rfl, h1, r1⟩ := trodAll_cons r0
  obtain ⟨rfl, rfl, rfl⟩ := trodAll_nil r1
  refine hrun.mono fun e W' ⟨he, bel, ht⟩ => ?_
  subst he
  exact ⟨_, rfl, _, _, _, [], _, [], hW', trodAll_mk1 (shut_bool Try.underlying4 _), ht, rfl, bel.frame _, fun h => by cases h⟩
theorem over : Rows.policyValidatesRow.holds Try.pinned (OpenSpec.ofChange Rows.policyValidatesSpec) :=
  OpenClaim.holds_of_wide 3 Try.f3 rfl rfl rfl rfl rfl rfl rfl ⟨rfl, rfl, rfl, rfl, rfl⟩ rfl rfl rfl rfl rfl (by kernel_rfl) Try.func3 (by kernel_rfl)
    (of_decide_eq_true (by kernel_rfl)) (by unfold Func.isWrapper; first | (rw [if_pos (by decide +kernel)]; kernel_rfl) | (rw [if_neg (by decide +kernel)]; exact ⟨rfl, rfl⟩))
    (fun os started H enc _ => lifted os started H enc)
theorem proved : Rows.PolicyValidatesSaid := over
end Go.Proofs.Ytjfnkoilnomofaa.policyValidates
namespace Go.Proofs.Ytjfnkoilnomofaa
/-- PolicyValidates tells true for every input. -/
theorem policyValidates_holds : Rows.PolicyValidatesSaid := policyValidates.proved
#print axioms policyValidates_holds
end Go.Proofs.Ytjfnkoilnomofaa

