/-
Policies: the laws over well-formed inputs.
-/
import Derived.Test.YtjfnkoilnomofaaEvM31
import Derived.Test.YtjfnkoilnomofaaEvWf
set_option linter.unusedVariables false
namespace Go.Proofs.Ytjfnkoilnomofaa
open Go Go.Ev
theorem weaker_pure (xs : List Int) (a b : Int) (hl : xs.length ≤ maxLen) (_ : ∀ m ∈ xs, (Lit.int .i64 m).wf = true) (ha : (Lit.int .u8 a).wf = true) (hb : (Lit.int .u8 b).wf = true) : f5 xs a b = some true :=
  f5_true xs a b (Nat.le_trans hl maxLen_le) (wf_u8 ha).1 (wf_u8 ha).2 (wf_u8 hb).1 (wf_u8 hb).2
theorem models_pure (xs : List Int) (a b : Int) (hl : xs.length ≤ maxLen) (_ : ∀ m ∈ xs, (Lit.int .i64 m).wf = true) (ha : (Lit.int .u64 a).wf = true) (hb : (Lit.int .u8 b).wf = true) : f6 xs a b = some true :=
  f6_true xs a b (Nat.le_trans hl maxLen_le) (wf_u8 hb).1 (wf_u8 hb).2
end Go.Proofs.Ytjfnkoilnomofaa
