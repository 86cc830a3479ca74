/-
What a value is sure to be: rules for binds, tests and loops.
-/
import Derived.Test.YtijjelcejpikiaaGreatDoorEvOpen
set_option linter.unusedVariables false
set_option linter.unusedSimpArgs false
namespace Go.Ev
variable [Globs]
set_option linter.unusedSectionVars false
/-- It is told, and Q holds of it. -/
def Gd {A : Type} (o : Option A) (Q : A → Prop) : Prop := ∃ a, o = some a ∧ Q a
namespace Gd
variable {A B : Type} {Q : A → Prop} {R : B → Prop}
theorem pure {a : A} (h : Q a) : Gd (some a) Q := ⟨a, rfl, h⟩
theorem bind {o : Option A} {f : A → Option B} (h : Gd o Q) (hf : ∀ a, Q a → Gd (f a) R) : Gd (Option.bind o f) R := by
  obtain ⟨a, rfl, hq⟩ := h
  exact hf a hq
theorem bindS {o : Option A} {f : A → Option B} {a : A} (h : o = some a) (hf : Gd (f a) R) : Gd (Option.bind o f) R := by
  rw [h]
  exact hf
theorem cond {b : Bool} {x y : Option A} (hx : b = true → Gd x Q) (hy : b = false → Gd y Q) : Gd (cond b x y) Q := by
  cases b
  · exact hy rfl
  · exact hx rfl
theorem condT {b : Bool} {x y : Option A} (hb : b = true) (hx : Gd x Q) : Gd (_root_.cond b x y) Q := by
  rw [hb]
  exact hx
theorem condF {b : Bool} {x y : Option A} (hb : b = false) (hy : Gd y Q) : Gd (_root_.cond b x y) Q := by
  rw [hb]
  exact hy
theorem mono {o : Option A} {Q' : A → Prop} (h : Gd o Q) (hq : ∀ a, Q a → Q' a) : Gd o Q' := by
  obtain ⟨a, ha, h⟩ := h
  exact ⟨a, ha, hq a h⟩
theorem eq {o : Option A} {a : A} (h : Gd o (· = a)) : o = some a := by
  obtain ⟨b, hb, rfl⟩ := h
  exact hb
theorem of_eq {o : Option A} {a : A} (h : o = some a) (hq : Q a) : Gd o Q := ⟨a, h, hq⟩
/-- A loop with an invariant and a measure. -/
theorem loop {σ ρ : Type} {step : σ → Option (σ ⊕ ρ)} {Q : ρ → Prop} (I : σ → Prop) (m : σ → Nat) (h : ∀ s, I s → Gd (step s) fun y => match y with | .inl s' => I s' ∧ m s' < m s | .inr r => Q r) (s : σ) (hs : I s) : Gd (loopFix step s) Q := by
  have key : ∀ (n : Nat) (s : σ), m s ≤ n → I s → Gd (loopFix step s) Q := by
    intro n
    induction n with
    | zero =>
      intro s hm hs
      obtain ⟨y, hy, hq⟩ := h s hs
      cases y with
      | inl s' => exact absurd hq.2 (by omega)
      | inr r => exact ⟨r, loopFix_inr hy, hq⟩
    | succ n ih =>
      intro s hm hs
      obtain ⟨y, hy, hq⟩ := h s hs
      cases y with
      | inl s' =>
        rw [loopFix_inl hy]
        exact ih s' (by omega) hq.1
      | inr r => exact ⟨r, loopFix_inr hy, hq⟩
  exact key (m s) s (Nat.le_refl _) hs
end Gd
theorem wrap64 {n : Int} (h0 : -9223372036854775808 ≤ n) (h1 : n ≤ 9223372036854775807) : IntKind.i64.wrap n = n := by rw [IntKind.wrap_i64]; omega
theorem wrapU64 {n : Int} (h0 : 0 ≤ n) (h1 : n ≤ 18446744073709551615) : IntKind.u64.wrap n = n := by rw [IntKind.wrap_u64]; omega
theorem wrapU64_nonneg (n : Int) : 0 ≤ IntKind.u64.wrap n := by rw [IntKind.wrap_u64]; omega
theorem wrapU64_le (n : Int) : IntKind.u64.wrap n ≤ 18446744073709551615 := by rw [IntKind.wrap_u64]; omega
theorem maxLen_le : maxLen ≤ 9223372036854775807 := by decide
theorem getI_ok {A : Type} {xs : List A} {i : Int} (h0 : 0 ≤ i) (h : i < xs.length) : ∃ x, getI xs i = some x ∧ x ∈ xs := by
  obtain ⟨n, rfl⟩ := Int.eq_ofNat_of_zero_le h0
  have hn : n < xs.length := by exact_mod_cast h
  exact ⟨xs[n], getI_lt xs n hn, List.getElem_mem hn⟩
theorem inRange_true {i : Int} {n : Nat} (h0 : 0 ≤ i) (h : i < n) : inRange i n = true := by
  unfold inRange
  simp [h0, h]
theorem okBounds_true {l h : Int} {n : Nat} (h0 : 0 ≤ l) (h1 : l ≤ h) (h2 : h ≤ n) : okBounds l h n = true := by
  unfold okBounds
  simp [h0, h1, h2]
theorem idx_some {A : Type} {xs : List A} {n : Nat} (h : n < xs.length) : ∃ x, xs[n]? = some x ∧ x ∈ xs := ⟨xs[n], by simp [h], List.getElem_mem h⟩
end Go.Ev
