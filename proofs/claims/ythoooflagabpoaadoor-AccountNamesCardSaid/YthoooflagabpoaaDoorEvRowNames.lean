/-
AccountNames tells true for every input: its row.
-/
import Derived.Test.YthoooflagabpoaaDoorCards
import Derived.Test.YthoooflagabpoaaDoorTie
import Derived.Test.YthoooflagabpoaaDoorEvV30d
import Derived.Test.YthoooflagabpoaaDoorEvT30d
import Derived.WalkKit
import Derived.ProofKit
import Derived.LaidMore
import Derived.OpenShut
import Derived.ShutString
import Derived.ChangeOld
import Derived.Below
import Derived.SizedLaws
namespace Go.Proofs.YthoooflagabpoaaDoor.accountNames
open Go Go.Ev Go.Px
open Go.ChangeShapes Go.WideShapes Go.ChangeAt Go.RowKit
set_option linter.unusedVariables false
set_option maxRecDepth 100000
theorem own : ownKnob Tryd.prog.godebug = none := by kernel_rfl
theorem laidOut : laidOutB Tryd.prog = true := by kernel_rfl
theorem law (args : List D) (h : ArgsWf Tryd.prog Tryd.f3.params.toList args) : ∃ hp, FnOK Tryd.prog 3 args [] (.pd (.bool true), hp) := by
  change ArgsWf Tryd.prog [22, 9] args at h
  obtain ⟨n0, xs0, ds0, rfl, h0, h⟩ := h
  obtain ⟨n1, xs1, ds1, rfl, h1, h⟩ := h
  subst h
  obtain ⟨a1, rfl, wa1⟩ := wfv_int Tryd.underlying22 h0
  obtain ⟨a2, rfl, wa2⟩ := wfv_str Tryd.underlying9 h1
  exact ent_true law30_AccountNames_ok (x := (a1, a2)) (by kernel_rfl) (names_true a1 a2)
theorem door_met (os : Os) (args : Array Value) : laidMetH Tryd.prog Rows.accountNamesRow.laid ((World.doorLaid Tryd.prog 24 os).forCall (fun _ _ => 0) ⟨#[], args, []⟩).memory :=
  laidMetH_of_parts3 (fuel := 8) (laidMet_of_run' 8 (by kernel_rfl) (by kernel_rfl)) (by kernel_rfl) (by kernel_rfl)
theorem lifted (os : Os) (started : os.Started) (H : Type) (enc : TypeId × Value → H) :
    ReturnsInHanded {} Tryd.checked os 3 .any (fun w args => (Rows.accountNamesSpec.pre enc Tryd.prog Tryd.f3 Rows.accountNamesRow.domain false w args ∧ laidMetH Tryd.prog Rows.accountNamesRow.laid w) ∧ sizedMet enc Tryd.prog Tryd.f3 (OpenSpec.ofChange Rows.accountNamesSpec) false w args) (Rows.accountNamesSpec.post enc Tryd.prog Tryd.f3 false true false false) := by
  refine returnsInHanded_of_change_and (C := Tryd.checked) (X := fun w _ => laidMetH Tryd.prog Rows.accountNamesRow.laid w) (fun _ _ _ hh h => h.of_heap hh) own started (by kernel_rfl) Tryd.func3
    (ChangeSpec.witness_shaped (enc := enc) (C := Tryd.checked) (os := os) (X := fun w _ => laidMetH Tryd.prog Rows.accountNamesRow.laid w) false (World.doorLaid Tryd.prog 24 os) #[.int .u64 0, .string ByteArray.empty] 12 rfl (World.shaped_of_RefB (by kernel_rfl) (by kernel_rfl)) (by kernel_rfl) (by kernel_rfl) (by kernel_rfl) (door_met os _)) ?_
  intro W base args ds gs before hval0 hW hcnd hsz0 hL _
  have hval : ∀ (j : Nat) t v, Tryd.f3.params[j]? = some t → args[j]? = some v → Value.okWide Tryd.prog W .any base t v := hval0
  have hW' := hW
  obtain ⟨p, q, hA0, hV, rfl, hfz, hnd⟩ := hW
  have hA : DataW.TrodAll enc Tryd.prog W 0 (fun _ => true) true Tryd.f3.params.toList args.toList ds p := hA0
  obtain ⟨rfl, rfl⟩ := trodVars_none hV
  have hts : ∀ t ∈ Tryd.f3.params.toList, openT Tryd.prog 40 t = true ∧ Tryd.prog.readableRec t = true ∧ t < Tryd.prog.types.size := by
    intro t ht
    change t ∈ [22, 9] at ht
    simp only [List.mem_cons, List.not_mem_nil, or_false] at ht
    rcases ht with rfl | rfl <;> exact ⟨by kernel_rfl, by kernel_rfl, of_decide_eq_true (by kernel_rfl)⟩
  have hrun := law_calls (enc := enc) (W := W) laidOut Tryd.func3 rfl (by decide) hts law (globs_ok hL) hval hA
  have hA1 := hA
  rw [Tryd.params3] at hA1
  obtain ⟨v0, vs0, d0, ds0, p0, q0, hargs, rfl, rfl, h0, r0⟩ := trodAll_cons hA1
  obtain ⟨v1, vs1, d1, ds1, p1, q1, rfl, rfl, rfl, h1, r1⟩ := trodAll_cons r0
  obtain ⟨rfl, rfl, rfl⟩ := trodAll_nil r1
  refine hrun.mono fun e W' ⟨he, bel, ht⟩ => ?_
  subst he
  exact ⟨_, rfl, _, _, _, [], _, [], hW', trodAll_mk1 (shut_bool Tryd.underlying4 _), ht, rfl, bel.frame _, fun h => by cases h⟩
theorem over : Rows.accountNamesRow.holds Tryd.pinned (OpenSpec.ofChange Rows.accountNamesSpec) :=
  OpenClaim.holds_of_wide 3 Tryd.f3 rfl rfl rfl rfl rfl rfl rfl ⟨rfl, rfl, rfl, rfl, rfl⟩ rfl rfl rfl rfl rfl (by kernel_rfl) Tryd.func3 (by kernel_rfl)
    (of_decide_eq_true (by kernel_rfl)) (by unfold Func.isWrapper; first | (rw [if_pos (by decide +kernel)]; kernel_rfl) | (rw [if_neg (by decide +kernel)]; exact ⟨rfl, rfl⟩))
    (fun os started H enc _ => lifted os started H enc)
theorem proved : Rows.AccountNamesSaid := over
theorem carded : Rows.AccountNamesCardSaid :=
  Claim7.holds_tied_plain_at .later [] [.data, .data, .data] true (true, "2fd9bccd8cd4b0c5eb898e507afdcc0a1e7841cb3cd5533e64b31ed9484fd17c") false
    proved (fun _ h => by cases h) (by kernel_rfl) (fun _ h => by cases h) accountNames_row_tie rfl ⟨rfl, rfl⟩ (by kernel_rfl) rfl
    (fun f fn hf hfn => by
      obtain rfl : f = 3 := Option.some.inj ((show Tryd.prog.funcNamed Rows.accountNamesRow.func = some 3 by kernel_rfl).symm.trans hf) |>.symm
      obtain rfl : fn = Tryd.f3 := (Option.some.inj (Tryd.func3.symm.trans hfn)).symm
      exact ⟨by kernel_rfl, fun j t ht => by
        rw [Tryd.params3] at ht
        have hm : t ∈ [22, 9] := by simpa using Array.mem_of_getElem? ht
        have hall : ([22, 9].all fun u => !Tryd.prog.wantsStandIn u) = true := by kernel_rfl
        exact (show Tryd.prog.wantsStandIn t = false by simpa using List.all_eq_true.1 hall t hm)⟩)
    (by kernel_rfl)
end Go.Proofs.YthoooflagabpoaaDoor.accountNames
namespace Go.Proofs.YthoooflagabpoaaDoor
/-- AccountNames tells true for every input. -/
theorem accountNames_holds : Rows.AccountNamesCardSaid := accountNames.carded
#print axioms accountNames_holds
end Go.Proofs.YthoooflagabpoaaDoor

