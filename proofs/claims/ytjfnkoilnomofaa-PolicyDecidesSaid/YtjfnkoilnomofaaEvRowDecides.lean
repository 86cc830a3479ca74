/-
PolicyDecides tells true for every input: its row.
-/
import Derived.Test.YtjfnkoilnomofaaRows
import Derived.Test.YtjfnkoilnomofaaEvW31b
import Derived.WalkKit
import Derived.ProofKit
import Derived.OpenShut
import Derived.ShutString
import Derived.ChangeOld
import Derived.Below
import Derived.SizedLaws
namespace Go.Proofs.Ytjfnkoilnomofaa.policyDecides
open Go Go.Ev
open Go.ChangeShapes Go.WideShapes Go.ChangeAt Go.RowKit
set_option linter.unusedVariables false
set_option maxRecDepth 100000
theorem own : ownKnob Try.prog.godebug = none := by kernel_rfl
theorem laidOut : laidOutB Try.prog = true := by kernel_rfl
theorem len3 {xs : List PD} (h : xs.length = 3) : ∃ c0 c1 c2, xs = [c0, c1, c2] := by
  match xs, h with
  | [c0, c1, c2], _ => exact ⟨c0, c1, c2, rfl⟩
theorem len8 {xs : List PD} (h : xs.length = 8) : ∃ c0 c1 c2 c3 c4 c5 c6 c7, xs = [c0, c1, c2, c3, c4, c5, c6, c7] := by
  match xs, h with
  | [c0, c1, c2, c3, c4, c5, c6, c7], _ => exact ⟨c0, c1, c2, c3, c4, c5, c6, c7, rfl⟩
theorem len9 {xs : List PD} (h : xs.length = 9) : ∃ c0 c1 c2 c3 c4 c5 c6 c7 c8, xs = [c0, c1, c2, c3, c4, c5, c6, c7, c8] := by
  match xs, h with
  | [c0, c1, c2, c3, c4, c5, c6, c7, c8], _ => exact ⟨c0, c1, c2, c3, c4, c5, c6, c7, c8, rfl⟩
theorem len11 {xs : List PD} (h : xs.length = 11) : ∃ c0 c1 c2 c3 c4 c5 c6 c7 c8 c9 c10, xs = [c0, c1, c2, c3, c4, c5, c6, c7, c8, c9, c10] := by
  match xs, h with
  | [c0, c1, c2, c3, c4, c5, c6, c7, c8, c9, c10], _ => exact ⟨c0, c1, c2, c3, c4, c5, c6, c7, c8, c9, c10, rfl⟩
theorem law (args : List D) (h : ArgsWf Try.prog Try.f4.params.toList args) : ∃ hp, FnOK Try.prog 4 args [] (.pd (.bool true), hp) := by
  change ArgsWf Try.prog [24, 39, 41, 44, 3, 25] args at h
  obtain ⟨n0, xs0, ds0, rfl, h0, h⟩ := h
  obtain ⟨n1, xs1, ds1, rfl, h1, h⟩ := h
  obtain ⟨n2, xs2, ds2, rfl, h2, h⟩ := h
  obtain ⟨n3, xs3, ds3, rfl, h3, h⟩ := h
  obtain ⟨n4, xs4, ds4, rfl, h4, h⟩ := h
  obtain ⟨n5, xs5, ds5, rfl, h5, h⟩ := h
  subst h
  obtain ⟨ma1, ea1, ga1⟩ := wfv_struct Try.underlying24 h0
  obtain ⟨ca1_0, ca1_1, ca1_2, ca1_3, ca1_4, ca1_5, ca1_6, ca1_7, ca1_8, rfl⟩ : ∃ ca1_0 ca1_1 ca1_2 ca1_3 ca1_4 ca1_5 ca1_6 ca1_7 ca1_8, xs0 = [ca1_0, ca1_1, ca1_2, ca1_3, ca1_4, ca1_5, ca1_6, ca1_7, ca1_8] := len9 (ea1.trans (by kernel_rfl))
  have ha1_0 : WfV Try.prog ma1 3 [ca1_0] := ga1 0 _ rfl
  obtain ⟨a2, qa2, wa2⟩ := wfv_int Try.underlying3 ha1_0
  obtain rfl := List.head_eq_of_cons_eq qa2
  have ha1_1 : WfV Try.prog ma1 4 [ca1_1] := ga1 1 _ rfl
  obtain ⟨a3, qa3⟩ := wfv_bool Try.underlying4 ha1_1
  obtain rfl := List.head_eq_of_cons_eq qa3
  have ha1_2 : WfV Try.prog ma1 3 [ca1_2] := ga1 2 _ rfl
  obtain ⟨a4, qa4, wa4⟩ := wfv_int Try.underlying3 ha1_2
  obtain rfl := List.head_eq_of_cons_eq qa4
  have ha1_3 : WfV Try.prog ma1 3 [ca1_3] := ga1 3 _ rfl
  obtain ⟨a5, qa5, wa5⟩ := wfv_int Try.underlying3 ha1_3
  obtain rfl := List.head_eq_of_cons_eq qa5
  have ha1_4 : WfV Try.prog ma1 4 [ca1_4] := ga1 4 _ rfl
  obtain ⟨a6, qa6⟩ := wfv_bool Try.underlying4 ha1_4
  obtain rfl := List.head_eq_of_cons_eq qa6
  have ha1_5 : WfV Try.prog ma1 3 [ca1_5] := ga1 5 _ rfl
  obtain ⟨a7, qa7, wa7⟩ := wfv_int Try.underlying3 ha1_5
  obtain rfl := List.head_eq_of_cons_eq qa7
  have ha1_6 : WfV Try.prog ma1 4 [ca1_6] := ga1 6 _ rfl
  obtain ⟨a8, qa8⟩ := wfv_bool Try.underlying4 ha1_6
  obtain rfl := List.head_eq_of_cons_eq qa8
  have ha1_7 : WfV Try.prog ma1 22 [ca1_7] := ga1 7 _ rfl
  obtain ⟨a9, qa9, la9, wa9⟩ := wfv_nums Try.underlying22 Try.underlying31 ha1_7
  obtain rfl := List.head_eq_of_cons_eq qa9
  have ha1_8 : WfV Try.prog ma1 3 [ca1_8] := ga1 8 _ rfl
  obtain ⟨a10, qa10, wa10⟩ := wfv_int Try.underlying3 ha1_8
  obtain rfl := List.head_eq_of_cons_eq qa10
  obtain ⟨ma11, ea11, ga11⟩ := wfv_struct Try.underlying39 h1
  obtain ⟨ca11_0, ca11_1, ca11_2, ca11_3, ca11_4, ca11_5, ca11_6, ca11_7, rfl⟩ : ∃ ca11_0 ca11_1 ca11_2 ca11_3 ca11_4 ca11_5 ca11_6 ca11_7, xs1 = [ca11_0, ca11_1, ca11_2, ca11_3, ca11_4, ca11_5, ca11_6, ca11_7] := len8 (ea11.trans (by kernel_rfl))
  have ha11_0 : WfV Try.prog ma11 31 [ca11_0] := ga11 0 _ rfl
  obtain ⟨a12, qa12, wa12⟩ := wfv_int Try.underlying31 ha11_0
  obtain rfl := List.head_eq_of_cons_eq qa12
  have ha11_1 : WfV Try.prog ma11 3 [ca11_1] := ga11 1 _ rfl
  obtain ⟨a13, qa13, wa13⟩ := wfv_int Try.underlying3 ha11_1
  obtain rfl := List.head_eq_of_cons_eq qa13
  have ha11_2 : WfV Try.prog ma11 3 [ca11_2] := ga11 2 _ rfl
  obtain ⟨a14, qa14, wa14⟩ := wfv_int Try.underlying3 ha11_2
  obtain rfl := List.head_eq_of_cons_eq qa14
  have ha11_3 : WfV Try.prog ma11 3 [ca11_3] := ga11 3 _ rfl
  obtain ⟨a15, qa15, wa15⟩ := wfv_int Try.underlying3 ha11_3
  obtain rfl := List.head_eq_of_cons_eq qa15
  have ha11_4 : WfV Try.prog ma11 31 [ca11_4] := ga11 4 _ rfl
  obtain ⟨a16, qa16, wa16⟩ := wfv_int Try.underlying31 ha11_4
  obtain rfl := List.head_eq_of_cons_eq qa16
  have ha11_5 : WfV Try.prog ma11 35 [ca11_5] := ga11 5 _ rfl
  obtain ⟨a17, qa17, la17, wa17⟩ := wfv_nums Try.underlying35 Try.underlying5 ha11_5
  obtain rfl := List.head_eq_of_cons_eq qa17
  have ha11_6 : WfV Try.prog ma11 37 [ca11_6, ca11_7] := ga11 6 _ rfl
  obtain ⟨ma18, ea18, ga18⟩ := wfv_struct Try.underlying37 ha11_6
  have ha18_0 : WfV Try.prog ma18 3 [ca11_6] := ga18 0 _ rfl
  obtain ⟨a19, qa19, wa19⟩ := wfv_int Try.underlying3 ha18_0
  obtain rfl := List.head_eq_of_cons_eq qa19
  have ha18_1 : WfV Try.prog ma18 31 [ca11_7] := ga18 1 _ rfl
  obtain ⟨a20, qa20, wa20⟩ := wfv_int Try.underlying31 ha18_1
  obtain rfl := List.head_eq_of_cons_eq qa20
  obtain ⟨ma21, ea21, ga21⟩ := wfv_struct Try.underlying41 h2
  obtain ⟨ca21_0, ca21_1, ca21_2, rfl⟩ : ∃ ca21_0 ca21_1 ca21_2, xs2 = [ca21_0, ca21_1, ca21_2] := len3 (ea21.trans (by kernel_rfl))
  have ha21_0 : WfV Try.prog ma21 3 [ca21_0] := ga21 0 _ rfl
  obtain ⟨a22, qa22, wa22⟩ := wfv_int Try.underlying3 ha21_0
  obtain rfl := List.head_eq_of_cons_eq qa22
  have ha21_1 : WfV Try.prog ma21 3 [ca21_1] := ga21 1 _ rfl
  obtain ⟨a23, qa23, wa23⟩ := wfv_int Try.underlying3 ha21_1
  obtain rfl := List.head_eq_of_cons_eq qa23
  have ha21_2 : WfV Try.prog ma21 3 [ca21_2] := ga21 2 _ rfl
  obtain ⟨a24, qa24, wa24⟩ := wfv_int Try.underlying3 ha21_2
  obtain rfl := List.head_eq_of_cons_eq qa24
  obtain ⟨ma25, ea25, ga25⟩ := wfv_struct Try.underlying44 h3
  obtain ⟨ca25_0, ca25_1, ca25_2, ca25_3, ca25_4, ca25_5, ca25_6, ca25_7, ca25_8, ca25_9, ca25_10, rfl⟩ : ∃ ca25_0 ca25_1 ca25_2 ca25_3 ca25_4 ca25_5 ca25_6 ca25_7 ca25_8 ca25_9 ca25_10, xs3 = [ca25_0, ca25_1, ca25_2, ca25_3, ca25_4, ca25_5, ca25_6, ca25_7, ca25_8, ca25_9, ca25_10] := len11 (ea25.trans (by kernel_rfl))
  have ha25_0 : WfV Try.prog ma25 35 [ca25_0] := ga25 0 _ rfl
  obtain ⟨a26, qa26, la26, wa26⟩ := wfv_nums Try.underlying35 Try.underlying5 ha25_0
  obtain rfl := List.head_eq_of_cons_eq qa26
  have ha25_1 : WfV Try.prog ma25 37 [ca25_1, ca25_2] := ga25 1 _ rfl
  obtain ⟨ma27, ea27, ga27⟩ := wfv_struct Try.underlying37 ha25_1
  have ha27_0 : WfV Try.prog ma27 3 [ca25_1] := ga27 0 _ rfl
  obtain ⟨a28, qa28, wa28⟩ := wfv_int Try.underlying3 ha27_0
  obtain rfl := List.head_eq_of_cons_eq qa28
  have ha27_1 : WfV Try.prog ma27 31 [ca25_2] := ga27 1 _ rfl
  obtain ⟨a29, qa29, wa29⟩ := wfv_int Try.underlying31 ha27_1
  obtain rfl := List.head_eq_of_cons_eq qa29
  have ha25_2 : WfV Try.prog ma25 31 [ca25_3] := ga25 2 _ rfl
  obtain ⟨a30, qa30, wa30⟩ := wfv_int Try.underlying31 ha25_2
  obtain rfl := List.head_eq_of_cons_eq qa30
  have ha25_3 : WfV Try.prog ma25 3 [ca25_4] := ga25 3 _ rfl
  obtain ⟨a31, qa31, wa31⟩ := wfv_int Try.underlying3 ha25_3
  obtain rfl := List.head_eq_of_cons_eq qa31
  have ha25_4 : WfV Try.prog ma25 4 [ca25_5] := ga25 4 _ rfl
  obtain ⟨a32, qa32⟩ := wfv_bool Try.underlying4 ha25_4
  obtain rfl := List.head_eq_of_cons_eq qa32
  have ha25_5 : WfV Try.prog ma25 31 [ca25_6] := ga25 5 _ rfl
  obtain ⟨a33, qa33, wa33⟩ := wfv_int Try.underlying31 ha25_5
  obtain rfl := List.head_eq_of_cons_eq qa33
  have ha25_6 : WfV Try.prog ma25 42 [ca25_7] := ga25 6 _ rfl
  obtain ⟨na34, a34, qa34, la34, wa34⟩ := wfv_sl Try.underlying42 (by intro k hk; rw [Try.underlying79] at hk; cases hk) ha25_6
  obtain rfl := List.head_eq_of_cons_eq qa34
  have ha25_7 : WfV Try.prog ma25 4 [ca25_8] := ga25 7 _ rfl
  obtain ⟨a35, qa35⟩ := wfv_bool Try.underlying4 ha25_7
  obtain rfl := List.head_eq_of_cons_eq qa35
  have ha25_8 : WfV Try.prog ma25 3 [ca25_9] := ga25 8 _ rfl
  obtain ⟨a36, qa36, wa36⟩ := wfv_int Try.underlying3 ha25_8
  obtain rfl := List.head_eq_of_cons_eq qa36
  have ha25_9 : WfV Try.prog ma25 3 [ca25_10] := ga25 9 _ rfl
  obtain ⟨a37, qa37, wa37⟩ := wfv_int Try.underlying3 ha25_9
  obtain rfl := List.head_eq_of_cons_eq qa37
  obtain ⟨a38, rfl, wa38⟩ := wfv_int Try.underlying3 h4
  obtain ⟨a39, rfl, la39, wa39⟩ := wfv_nums Try.underlying25 Try.underlying3 h5
  exact ent_true f4_ok (x := ((a2, a3, a4, a5, a6, a7, a8, a9, a10), (a12, a13, a14, a15, a16, a17, a19, a20), (a22, a23, a24), (a26, a28, a29, a30, a31, a32, a33, a34, a35, a36, a37), a38, a39)) (by kernel_rfl) (decides_pure a2 a3 a4 a5 a6 a7 a8 a9 a10 a12 a13 a14 a15 a16 a17 a19 a20 a22 a23 a24 a26 a28 a29 a30 a31 a32 a33 a34 a35 a36 a37 a38 a39 wa2 wa4 wa5 wa7 la9 wa9 wa10 wa12 wa13 wa14 wa15 wa16 la17 wa17 wa19 wa20 wa22 wa23 wa24 la26 wa26 wa28 wa29 wa30 wa31 wa33 la34 wa34 wa36 wa37 wa38 la39 wa39)
theorem lifted (os : Os) (started : os.Started) (H : Type) (enc : TypeId × Value → H) :
    ReturnsInHanded {} Try.checked os 4 .any (Rows.policyDecidesSpec.pre6 enc Try.prog Try.f4 Rows.policyDecidesRow.domain false) (Rows.policyDecidesSpec.post enc Try.prog Try.f4 false true false false) := by
  refine returnsInHanded_of_change_sized (C := Try.checked) own started (by kernel_rfl) Try.func4
    (ChangeSpec.witness6 (enc := enc) (C := Try.checked) false ⟨#[], #[.agg #[.int .i64 0, .bool false, .int .i64 0, .int .i64 0, .bool false, .int .i64 0, .bool false, .slice none 0 0, .int .i64 0], .agg #[.int .u64 0, .int .i64 0, .int .i64 0, .int .i64 0, .int .u64 0, .slice none 0 0, .int .i64 0, .int .u64 0], .agg #[.int .i64 0, .int .i64 0, .int .i64 0], .agg #[.slice none 0 0, .int .i64 0, .int .u64 0, .int .u64 0, .int .i64 0, .bool false, .int .u64 0, .slice none 0 0, .bool false, .int .i64 0, .int .i64 0], .int .i64 0, .slice none 0 0], []⟩ 12 (by kernel_rfl) (by kernel_rfl) (by kernel_rfl) (by kernel_rfl)) ?_
  intro W base args ds gs before hval0 hW hcnd hsz0 _
  have hval : ∀ (j : Nat) t v, Try.f4.params[j]? = some t → args[j]? = some v → Value.okWide Try.prog W .any base t v := hval0
  have hW' := hW
  obtain ⟨p, q, hA0, hV, rfl, hfz, hnd⟩ := hW
  have hA : DataW.TrodAll enc Try.prog W 0 (fun _ => true) true Try.f4.params.toList args.toList ds p := hA0
  obtain ⟨rfl, rfl⟩ := trodVars_none hV
  have hts : ∀ t ∈ Try.f4.params.toList, openT Try.prog 40 t = true ∧ Try.prog.readableRec t = true ∧ t < Try.prog.types.size := by
    intro t ht
    change t ∈ [24, 39, 41, 44, 3, 25] at ht
    simp only [List.mem_cons, List.not_mem_nil, or_false] at ht
    rcases ht with rfl | rfl | rfl | rfl | rfl | rfl <;> exact ⟨by kernel_rfl, by kernel_rfl, of_decide_eq_true (by kernel_rfl)⟩
  have hrun := law_calls (enc := enc) (W := W) laidOut Try.func4 rfl (by decide) hts law hval hA
  have hA1 := hA
  rw [Try.params4] at hA1
  obtain ⟨v0, vs0, d0, ds0, p0, q0, hargs, rfl, rfl, h0, r0⟩ := trodAll_cons hA1
  obtain ⟨v1, vs1, d1, ds1, p1, q1, rfl, rfl, rfl, h1, r1⟩ := trodAll_cons r0
  obtain ⟨v2, vs2, d2, ds2, p2, q2, rfl, rfl, rfl, h2, r2⟩ := trodAll_cons r1
  obtain ⟨v3, vs3, d3, ds3, p3, q3, rfl, rfl, rfl, h3, r3⟩ := trodAll_cons r2
  obtain ⟨v4, vs4, d4, ds4, p4, q4, rfl, rfl, rfl, h4, r4⟩ := trodAll_cons r3
  obtain ⟨v5, vs5, d5, ds5, p5, q5, rfl, rfl, rfl, h5, r5⟩ := trodAll_cons r4
  obtain ⟨rfl, rfl, rfl⟩ := trodAll_nil r5
  refine hrun.mono fun e W' ⟨he, bel, ht⟩ => ?_
  subst he
  exact ⟨_, rfl, _, _, _, [], _, [], hW', trodAll_mk1 (shut_bool Try.underlying4 _), ht, rfl, bel.frame _, fun h => by cases h⟩
theorem over : Rows.policyDecidesRow.holds Try.pinned (OpenSpec.ofChange Rows.policyDecidesSpec) :=
  OpenClaim.holds_of_wide 4 Try.f4 rfl rfl rfl rfl rfl rfl rfl ⟨rfl, rfl, rfl, rfl, rfl⟩ rfl rfl rfl rfl rfl (by kernel_rfl) Try.func4 (by kernel_rfl)
    (of_decide_eq_true (by kernel_rfl)) (by unfold Func.isWrapper; first | (rw [if_pos (by decide +kernel)]; kernel_rfl) | (rw [if_neg (by decide +kernel)]; exact ⟨rfl, rfl⟩))
    (fun os started H enc _ => lifted os started H enc)
theorem proved : Rows.PolicyDecidesSaid := over
end Go.Proofs.Ytjfnkoilnomofaa.policyDecides
namespace Go.Proofs.Ytjfnkoilnomofaa
/-- PolicyDecides tells true for every input. -/
theorem policyDecides_holds : Rows.PolicyDecidesSaid := policyDecides.proved
#print axioms policyDecides_holds
end Go.Proofs.Ytjfnkoilnomofaa

