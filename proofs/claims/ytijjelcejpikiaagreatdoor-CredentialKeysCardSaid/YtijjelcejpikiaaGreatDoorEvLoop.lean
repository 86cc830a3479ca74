/-
Loops by their rounds; the words for laws over normal forms.
-/
import Derived.Test.YtijjelcejpikiaaGreatDoorEvRow
set_option linter.unusedVariables false
set_option linter.unusedSimpArgs false
namespace Go.Ev
variable [Globs]
set_option linter.unusedSectionVars false
theorem loopFix_inl {S R : Type} {step : S → Option (S ⊕ R)} {s s' : S} (h : step s = some (.inl s')) : loopFix step s = loopFix step s' := by
  rw [loopFix, h]
theorem loopFix_inr {S R : Type} {step : S → Option (S ⊕ R)} {s : S} {r : R} (h : step s = some (.inr r)) : loopFix step s = some r := by
  rw [loopFix, h]
theorem loopFix_none {S R : Type} (s : S) : loopFix (fun _ => none : S → Option (S ⊕ R)) s = none := by
  rw [loopFix]
section res
variable (P : Program) (call : Cal) (fh : FH) (n0 : Nat)
theorem loopR_run (fn : Func) (id : Nat) (s : St) (X : Type) (k : D × List Ob → Option X) :
    loopR P call fh n0 fn id s X k = (loopFix (stepR P call fh n0 fn id) s).bind fun r => restR P call fh n0 fn id r X k := by
  unfold loopR loopAt restR
  have none_of : (∀ s, stepR P call fh n0 fn id s = none) → (loopFix (stepR P call fh n0 fn id) s).bind (fun r => restAt P call fh n0 fn ((pathOf id (codeOf fn)).getD []) r X k) = none := fun h => by
    have : stepR P call fh n0 fn id = fun _ => none := funext h
    rw [this, loopFix_none]
    rfl
  cases hc : codeAt (codeOf fn) ((pathOf id (codeOf fn)).getD []) with
  | loop b =>
    simp only
    cases hl : (firstR b).bind (assoc fh.loops) with
    | none =>
      rw [none_of fun s => by simp only [stepR, hc, hl]]
      rfl
    | some p =>
      obtain ⟨hi, ho⟩ := p
      have : stepR P call fh n0 fn id = loopStep P call fh n0 b hi ho := funext fun s => by simp only [stepR, hc, hl]
      rw [this]
      rfl
  | _ => rw [none_of fun s => by simp only [stepR, hc]]; rfl
end res
/-! the computations, laid open -/
theorem run_split {A : Type} (b : Bool) (f : Bool → C A) (X : Type) (k : A → Option X) : C.split b f X k = if b = true then f true X k else f false X k := by cases b <;> rfl
theorem run_need {A : Type} (b : Bool) (m : C A) (X : Type) (k : A → Option X) : C.need b m X k = if b = true then m X k else none := by cases b <;> rfl
theorem run_bind {A B : Type} (m : C A) (f : A → C B) (X : Type) (k : B → Option X) : C.bind m f X k = m X fun a => f a X k := rfl
theorem run_pure {A : Type} (a : A) (X : Type) (k : A → Option X) : C.pure a X k = k a := rfl
theorem run_lift {A : Type} (o : Option A) (X : Type) (k : A → Option X) : C.lift o X k = o.bind k := rfl
theorem run_fail {A : Type} (X : Type) (k : A → Option X) : (C.fail : C A) X k = none := rfl
theorem getI_lt {A : Type} (xs : List A) (i : Nat) (h : i < xs.length) : getI xs (i : Int) = some xs[i] := by
  simp [getI, h]
end Go.Ev
