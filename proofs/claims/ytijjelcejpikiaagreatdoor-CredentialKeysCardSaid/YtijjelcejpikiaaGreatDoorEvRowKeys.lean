/-
CredentialKeys tells true for every input: its row.
-/
import Derived.Test.YtijjelcejpikiaaGreatDoorCards
import Derived.Test.YtijjelcejpikiaaGreatDoorTie
import Derived.Test.YtijjelcejpikiaaGreatDoorEvB15
import Derived.Test.YtijjelcejpikiaaGreatDoorEvT15
import Derived.WalkKit
import Derived.ProofKit
import Derived.LaidMore
import Derived.Lay
import Derived.OpenShut
import Derived.ShutString
import Derived.ChangeOld
import Derived.Below
import Derived.SizedLaws
namespace Go.Proofs.YtijjelcejpikiaaGreatDoor.credentialKeys
open Go Go.Ev Go.Px
open Go.ChangeShapes Go.WideShapes Go.ChangeAt Go.RowKit
set_option linter.unusedVariables false
set_option maxRecDepth 100000
theorem own : ownKnob Tryz.prog.godebug = none := by kernel_rfl
theorem laidOut : laidOutB Tryz.prog = true := by kernel_rfl
theorem law (args : List D) (h : ArgsWf Tryz.prog Tryz.f9.params.toList args) : ∃ hp, FnOK Tryz.prog 9 args [] (.pd (.bool true), hp) := by
  change ArgsWf Tryz.prog [3, 3] args at h
  obtain ⟨n0, xs0, ds0, rfl, h0, h⟩ := h
  obtain ⟨n1, xs1, ds1, rfl, h1, h⟩ := h
  subst h
  obtain ⟨a1, rfl, wa1⟩ := wfv_int Tryz.underlying3 h0
  obtain ⟨a2, rfl, wa2⟩ := wfv_int Tryz.underlying3 h1
  exact ent_true law15_CredentialKeys_ok (x := (a1, a2)) (by kernel_rfl) (keys_true a1 a2)
theorem lifted (os : Os) (started : os.Started) (H : Type) (enc : TypeId × Value → H) :
    ReturnsInHanded {} Tryz.checked os 9 .any (fun w args => (Rows.credentialKeysSpec.pre enc Tryz.prog Tryz.f9 Rows.credentialKeysRow.domain false w args ∧ laidMetH Tryz.prog Rows.credentialKeysRow.laid w) ∧ sizedMet enc Tryz.prog Tryz.f9 (OpenSpec.ofChange Rows.credentialKeysSpec) false w args) (Rows.credentialKeysSpec.post enc Tryz.prog Tryz.f9 false true false false) := by
  refine returnsInHanded_of_change_and (C := Tryz.checked) (X := fun w _ => laidMetH Tryz.prog Rows.credentialKeysRow.laid w) (fun _ _ _ hh h => h.of_heap hh) own started (by kernel_rfl) Tryz.func9
    (ChangeSpec.witness_shaped (enc := enc) (C := Tryz.checked) (os := os) (X := fun w _ => laidMetH Tryz.prog Rows.credentialKeysRow.laid w) false (World.laidAll Tryz.prog os Rows.credentialKeysRow.laid) #[.int .i64 0, .int .i64 0] 12 (World.laidAll_os _ _ _) (World.shaped_of_ZipB (by kernel_rfl) (by kernel_rfl)) (by kernel_rfl) (by kernel_rfl) (by kernel_rfl)
      (by rw [MakeChecks.laidMetH_plain _ _ _ (by kernel_rfl)]; exact laidMet_laidAll _ (by kernel_rfl) (by kernel_rfl))) ?_
  intro W base args ds gs before hval0 hW hcnd hsz0 hL _
  have hval : ∀ (j : Nat) t v, Tryz.f9.params[j]? = some t → args[j]? = some v → Value.okWide Tryz.prog W .any base t v := hval0
  have hW' := hW
  obtain ⟨p, q, hA0, hV, rfl, hfz, hnd⟩ := hW
  have hA : DataW.TrodAll enc Tryz.prog W 0 (fun _ => true) true Tryz.f9.params.toList args.toList ds p := hA0
  obtain ⟨rfl, rfl⟩ := trodVars_none hV
  have hts : ∀ t ∈ Tryz.f9.params.toList, openT Tryz.prog 40 t = true ∧ Tryz.prog.readableRec t = true ∧ t < Tryz.prog.types.size := by
    intro t ht
    change t ∈ [3, 3] at ht
    simp only [List.mem_cons, List.not_mem_nil, or_false] at ht
    rcases ht with rfl | rfl <;> exact ⟨by kernel_rfl, by kernel_rfl, of_decide_eq_true (by kernel_rfl)⟩
  have hrun := law_calls (enc := enc) (W := W) laidOut Tryz.func9 rfl (by decide) hts law (globs_ok hL) hval hA
  have hA1 := hA
  rw [Tryz.params9] at hA1
  obtain ⟨v0, vs0, d0, ds0, p0, q0, hargs, rfl, rfl, h0, r0⟩ := trodAll_cons hA1
  obtain ⟨v1, vs1, d1, ds1, p1, q1, rfl, rfl, rfl, h1, r1⟩ := trodAll_cons r0
  obtain ⟨rfl, rfl, rfl⟩ := trodAll_nil r1
  refine hrun.mono fun e W' ⟨he, bel, ht⟩ => ?_
  subst he
  exact ⟨_, rfl, _, _, _, [], _, [], hW', trodAll_mk1 (shut_bool Tryz.underlying4 _), ht, rfl, bel.frame _, fun h => by cases h⟩
theorem over : Rows.credentialKeysRow.holds Tryz.pinned (OpenSpec.ofChange Rows.credentialKeysSpec) :=
  OpenClaim.holds_of_wide 9 Tryz.f9 rfl rfl rfl rfl rfl rfl rfl ⟨rfl, rfl, rfl, rfl, rfl⟩ rfl rfl rfl rfl rfl (by kernel_rfl) Tryz.func9 (by kernel_rfl)
    (of_decide_eq_true (by kernel_rfl)) (by unfold Func.isWrapper; first | (rw [if_pos (by decide +kernel)]; kernel_rfl) | (rw [if_neg (by decide +kernel)]; exact ⟨rfl, rfl⟩))
    (fun os started H enc _ => lifted os started H enc)
theorem proved : Rows.CredentialKeysSaid := over
theorem carded : Rows.CredentialKeysCardSaid :=
  Claim7.holds_tied_plain_at .later [] [.data, .pinned] true (true, "e4940e58b26e1568381fa16b7c1c78fb424aa7625545c7b829078d6f32c48e43") false
    proved (fun _ h => by cases h) (by kernel_rfl) (fun _ h => by cases h) credentialKeys_row_tie rfl ⟨rfl, rfl⟩ (by kernel_rfl) rfl
    (fun f fn hf hfn => by
      obtain rfl : f = 9 := Option.some.inj ((show Tryz.prog.funcNamed Rows.credentialKeysRow.func = some 9 by kernel_rfl).symm.trans hf) |>.symm
      obtain rfl : fn = Tryz.f9 := (Option.some.inj (Tryz.func9.symm.trans hfn)).symm
      exact ⟨by kernel_rfl, fun j t ht => by
        rw [Tryz.params9] at ht
        have hm : t ∈ [3, 3] := by simpa using Array.mem_of_getElem? ht
        have hall : ([3, 3].all fun u => !Tryz.prog.wantsStandIn u) = true := by kernel_rfl
        exact (show Tryz.prog.wantsStandIn t = false by simpa using List.all_eq_true.1 hall t hm)⟩)
    (by kernel_rfl)
end Go.Proofs.YtijjelcejpikiaaGreatDoor.credentialKeys
namespace Go.Proofs.YtijjelcejpikiaaGreatDoor
/-- CredentialKeys tells true for every input. -/
theorem credentialKeys_holds : Rows.CredentialKeysCardSaid := credentialKeys.carded
#print axioms credentialKeys_holds
end Go.Proofs.YtijjelcejpikiaaGreatDoor

