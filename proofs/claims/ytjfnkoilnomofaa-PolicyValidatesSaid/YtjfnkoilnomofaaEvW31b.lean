/-
Policies: the laws on validity and decisions over well-formed inputs.
-/
import Derived.Test.YtjfnkoilnomofaaEvL31
import Derived.Test.YtjfnkoilnomofaaEvWf
set_option linter.unusedVariables false
namespace Go.Proofs.Ytjfnkoilnomofaa
open Go Go.Ev
theorem validates_pure (a1 : Int) (a2 : Bool) (a3 a4 : Int) (a5 : Bool) (a6 : Int) (a7 : Bool) (a8 : List Int) (a9 : Int) (a10 : List Int)
    (_ : (Lit.int .i64 a1).wf = true) (_ : (Lit.int .i64 a3).wf = true) (_ : (Lit.int .i64 a4).wf = true) (_ : (Lit.int .i64 a6).wf = true) (_ : a8.length ≤ maxLen) (_ : ∀ m ∈ a8, (Lit.int .u64 m).wf = true) (_ : (Lit.int .i64 a9).wf = true)
    (hl : a10.length ≤ maxLen) (_ : ∀ m ∈ a10, (Lit.int .i64 m).wf = true) : f3 a1 a2 a3 a4 a5 a6 a7 a8 a9 a10 = some true :=
  f3_true a1 a2 a3 a4 a5 a6 a7 a8 a9 a10 (Nat.le_trans hl maxLen_le)
theorem decides_pure (a1 : Int) (a2 : Bool) (a3 : Int) (a4 : Int) (a5 : Bool) (a6 : Int) (a7 : Bool) (a8 : List Int) (a9 : Int) (a10 : Int) (a11 : Int) (a12 : Int) (a13 : Int) (a14 : Int) (a15 : List Int) (a16 : Int) (a17 : Int) (a18 : Int) (a19 : Int) (a20 : Int) (a21 : List Int) (a22 : Int) (a23 : Int) (a24 : Int) (a25 : Int) (a26 : Bool) (a27 : Int) (a28 : List PD) (a29 : Bool) (a30 : Int) (a31 : Int) (a32 : Int) (a33 : List Int)
    (wa1 : (Lit.int .i64 a1).wf = true) (wa3 : (Lit.int .i64 a3).wf = true) (wa4 : (Lit.int .i64 a4).wf = true) (wa6 : (Lit.int .i64 a6).wf = true) (la8 : a8.length ≤ maxLen) (wa8 : ∀ m ∈ a8, (Lit.int .u64 m).wf = true) (wa9 : (Lit.int .i64 a9).wf = true) (wa10 : (Lit.int .u64 a10).wf = true) (wa11 : (Lit.int .i64 a11).wf = true) (wa12 : (Lit.int .i64 a12).wf = true) (wa13 : (Lit.int .i64 a13).wf = true) (wa14 : (Lit.int .u64 a14).wf = true) (la15 : a15.length ≤ maxLen) (wa15 : ∀ m ∈ a15, (Lit.int .u8 m).wf = true) (wa16 : (Lit.int .i64 a16).wf = true) (wa17 : (Lit.int .u64 a17).wf = true) (wa18 : (Lit.int .i64 a18).wf = true) (wa19 : (Lit.int .i64 a19).wf = true) (wa20 : (Lit.int .i64 a20).wf = true) (la21 : a21.length ≤ maxLen) (wa21 : ∀ m ∈ a21, (Lit.int .u8 m).wf = true) (wa22 : (Lit.int .i64 a22).wf = true) (wa23 : (Lit.int .u64 a23).wf = true) (wa24 : (Lit.int .u64 a24).wf = true) (wa25 : (Lit.int .i64 a25).wf = true) (wa27 : (Lit.int .u64 a27).wf = true) (la28 : a28.length ≤ maxLen) {na28 : Nat} (wa28 : ∀ y ∈ a28, ElemWf (aggT Try.prog 79) (WfV Try.prog na28 79) y) (wa30 : (Lit.int .i64 a30).wf = true) (wa31 : (Lit.int .i64 a31).wf = true) (wa32 : (Lit.int .i64 a32).wf = true) (la33 : a33.length ≤ maxLen) (wa33 : ∀ m ∈ a33, (Lit.int .i64 m).wf = true) :
    f4 a1 a2 a3 a4 a5 a6 a7 a8 a9 a10 a11 a12 a13 a14 a15 a16 a17 a18 a19 a20 a21 a22 a23 a24 a25 a26 a27 a28 a29 a30 a31 a32 a33 = some true :=
  f4_true a1 a2 a3 a4 a5 a6 a7 a8 a9 a10 a11 a12 a13 a14 a15 a16 a17 a18 a19 a20 a21 a22 a23 a24 a25 a26 a27 a28 a29 a30 a31 a32 a33 (Nat.le_trans la8 maxLen_le) (Nat.le_trans la33 maxLen_le)
end Go.Proofs.Ytjfnkoilnomofaa
