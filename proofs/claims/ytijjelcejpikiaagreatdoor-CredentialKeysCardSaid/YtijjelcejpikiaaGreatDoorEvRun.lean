/-
Values that can be computed: loops with so many rounds at most; what such a value tells, the value tells.
-/
import Derived.Test.YtijjelcejpikiaaGreatDoorEvHoare
set_option linter.unusedVariables false
namespace Go.Ev
/-- What a tells, b tells. -/
def Le {A : Type} (a b : Option A) : Prop := ∀ r, a = some r → b = some r
theorem Le.refl {A : Type} (a : Option A) : Le a a := fun _ h => h
theorem Le.bind {A B : Type} {a b : Option A} {f g : A → Option B} (h : Le a b) (hf : ∀ x, Le (f x) (g x)) : Le (Option.bind a f) (Option.bind b g) := fun r hr => by
  obtain ⟨x, hx, hr⟩ := Option.bind_eq_some_iff.1 hr
  rw [h x hx]
  exact hf x r hr
theorem Le.cond {A : Type} {c : Bool} {a b a' b' : Option A} (h : Le a b) (h' : Le a' b') : Le (cond c a a') (cond c b b') := by
  cases c
  · exact h'
  · exact h
/-- At most n rounds. -/
noncomputable def loopN {S R : Type} (n : Nat) (step : S → Option (S ⊕ R)) : S → Option R :=
  Nat.rec (fun _ => none) (fun _ ih s => match step s with | none => none | some (.inl s) => ih s | some (.inr r) => some r) n
theorem Le.loop [Globs] {S R : Type} {step step' : S → Option (S ⊕ R)} (h : ∀ s, Le (step s) (step' s)) (n : Nat) : ∀ s, Le (loopN n step s) (loopFix step' s) := by
  induction n with
  | zero => exact fun s r hr => by cases hr
  | succ n ih =>
    intro s r hr
    change (match step s with | none => none | some (.inl s) => loopN n step s | some (.inr r) => some r) = some r at hr
    split at hr
    · cases hr
    · rename_i s' hs
      rw [loopFix_inl (h s _ hs)]
      exact ih s' r hr
    · rename_i r' hs
      rw [loopFix_inr (h s _ hs)]
      exact hr
end Go.Ev
