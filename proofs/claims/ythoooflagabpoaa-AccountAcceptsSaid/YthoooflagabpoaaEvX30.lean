/-
Chapter 30: the laws over well-formed inputs.
-/
import Derived.Test.YthoooflagabpoaaEvF30
import Derived.Test.YthoooflagabpoaaEvWf
set_option linter.unusedVariables false
namespace Go.Proofs.Ythoooflagabpoaa
open Go Go.Ev
theorem accepts_pure (a1 : List Int) (a2 : Int) (a3 : Int) (a4 : Int) (a5 : Int)
    (la1 : a1.length ≤ maxLen) (wa1 : ∀ m ∈ a1, (Lit.int .i64 m).wf = true) (wa2 : (Lit.int .i64 a2).wf = true) (wa3 : (Lit.int .i64 a3).wf = true) (wa4 : (Lit.int .i64 a4).wf = true) (wa5 : (Lit.int .i64 a5).wf = true) :
    f4 a1 a2 a3 a4 a5 = some true := f4_true (Nat.le_trans la1 maxLen_le) a2 a3 a4 a5
end Go.Proofs.Ythoooflagabpoaa
