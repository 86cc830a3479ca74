/-
The values of the functions that the laws of chapter 30d reach, as Lean functions. Printed by a program.
-/
import Derived.Test.YthoooflagabpoaaDoorEvHoare
import Derived.Lib.Repeat
set_option linter.unusedVariables false
namespace Go.Px
open Go Go.Ev
def bs (l : List UInt8) : ByteArray := ⟨l.toArray⟩
/-- A table; closed, so that nothing unfolds it. -/
noncomputable def tabPow10 : List Int := Classical.choose (Exists.intro [1, 10, 100, 1000, 10000, 100000, 1000000, 10000000, 100000000, 1000000000, 10000000000, 100000000000, 1000000000000, 10000000000000, 100000000000000, 1000000000000000, 10000000000000000, 100000000000000000, 1000000000000000000, 10000000000000000000] rfl : ∃ l : List Int, l = [1, 10, 100, 1000, 10000, 100000, 1000000, 10000000, 100000000, 1000000000, 10000000000, 100000000000, 1000000000000, 10000000000000, 100000000000000, 1000000000000000, 10000000000000000, 100000000000000000, 1000000000000000000, 10000000000000000000])
theorem tabPow10_eq : tabPow10 = [1, 10, 100, 1000, 10000, 100000, 1000000, 10000000, 100000000, 1000000000, 10000000000, 100000000000, 1000000000000, 10000000000000, 100000000000000, 1000000000000000, 10000000000000000, 100000000000000000, 1000000000000000000, 10000000000000000000] := Classical.choose_spec (Exists.intro [1, 10, 100, 1000, 10000, 100000, 1000000, 10000000, 100000000, 1000000000, 10000000000, 100000000000, 1000000000000, 10000000000000, 100000000000000, 1000000000000000, 10000000000000000, 100000000000000000, 1000000000000000000, 10000000000000000000] rfl : ∃ l : List Int, l = [1, 10, 100, 1000, 10000, 100000, 1000000, 10000000, 100000000, 1000000000, 10000000000, 100000000000, 1000000000000, 10000000000000, 100000000000000, 1000000000000000, 10000000000000000, 100000000000000000, 1000000000000000000, 10000000000000000000])
/-- A table; closed, so that nothing unfolds it. -/
noncomputable def tabBruijn32 : List Int := Classical.choose (Exists.intro [0, 1, 28, 2, 29, 14, 24, 3, 30, 22, 20, 15, 25, 17, 4, 8, 31, 27, 13, 23, 21, 19, 16, 7, 26, 12, 18, 6, 11, 5, 10, 9] rfl : ∃ l : List Int, l = [0, 1, 28, 2, 29, 14, 24, 3, 30, 22, 20, 15, 25, 17, 4, 8, 31, 27, 13, 23, 21, 19, 16, 7, 26, 12, 18, 6, 11, 5, 10, 9])
theorem tabBruijn32_eq : tabBruijn32 = [0, 1, 28, 2, 29, 14, 24, 3, 30, 22, 20, 15, 25, 17, 4, 8, 31, 27, 13, 23, 21, 19, 16, 7, 26, 12, 18, 6, 11, 5, 10, 9] := Classical.choose_spec (Exists.intro [0, 1, 28, 2, 29, 14, 24, 3, 30, 22, 20, 15, 25, 17, 4, 8, 31, 27, 13, 23, 21, 19, 16, 7, 26, 12, 18, 6, 11, 5, 10, 9] rfl : ∃ l : List Int, l = [0, 1, 28, 2, 29, 14, 24, 3, 30, 22, 20, 15, 25, 17, 4, 8, 31, 27, 13, 23, 21, 19, 16, 7, 26, 12, 18, 6, 11, 5, 10, 9])
/-- A table; closed, so that nothing unfolds it. -/
noncomputable def tabBruijn64 : List Int := Classical.choose (Exists.intro [0, 1, 56, 2, 57, 49, 28, 3, 61, 58, 42, 50, 38, 29, 17, 4, 62, 47, 59, 36, 45, 43, 51, 22, 53, 39, 33, 30, 24, 18, 12, 5, 63, 55, 48, 27, 60, 41, 37, 16, 46, 35, 44, 21, 52, 32, 23, 11, 54, 26, 40, 15, 34, 20, 31, 10, 25, 14, 19, 9, 13, 8, 7, 6] rfl : ∃ l : List Int, l = [0, 1, 56, 2, 57, 49, 28, 3, 61, 58, 42, 50, 38, 29, 17, 4, 62, 47, 59, 36, 45, 43, 51, 22, 53, 39, 33, 30, 24, 18, 12, 5, 63, 55, 48, 27, 60, 41, 37, 16, 46, 35, 44, 21, 52, 32, 23, 11, 54, 26, 40, 15, 34, 20, 31, 10, 25, 14, 19, 9, 13, 8, 7, 6])
theorem tabBruijn64_eq : tabBruijn64 = [0, 1, 56, 2, 57, 49, 28, 3, 61, 58, 42, 50, 38, 29, 17, 4, 62, 47, 59, 36, 45, 43, 51, 22, 53, 39, 33, 30, 24, 18, 12, 5, 63, 55, 48, 27, 60, 41, 37, 16, 46, 35, 44, 21, 52, 32, 23, 11, 54, 26, 40, 15, 34, 20, 31, 10, 25, 14, 19, 9, 13, 8, 7, 6] := Classical.choose_spec (Exists.intro [0, 1, 56, 2, 57, 49, 28, 3, 61, 58, 42, 50, 38, 29, 17, 4, 62, 47, 59, 36, 45, 43, 51, 22, 53, 39, 33, 30, 24, 18, 12, 5, 63, 55, 48, 27, 60, 41, 37, 16, 46, 35, 44, 21, 52, 32, 23, 11, 54, 26, 40, 15, 34, 20, 31, 10, 25, 14, 19, 9, 13, 8, 7, 6] rfl : ∃ l : List Int, l = [0, 1, 56, 2, 57, 49, 28, 3, 61, 58, 42, 50, 38, 29, 17, 4, 62, 47, 59, 36, 45, 43, 51, 22, 53, 39, 33, 30, 24, 18, 12, 5, 63, 55, 48, 27, 60, 41, 37, 16, 46, 35, 44, 21, 52, 32, 23, 11, 54, 26, 40, 15, 34, 20, 31, 10, 25, 14, 19, 9, 13, 8, 7, 6])
/-- What the package variables hold. -/
noncomputable instance globs : Globs := ⟨fun g => if g = 0 then some (.arr .u64 20 tabPow10) else if g = 2 then some (.arr .u8 32 tabBruijn32) else if g = 3 then some (.arr .u8 64 tabBruijn64) else none⟩
/-- strings.Repeat. -/
noncomputable def strings_Repeat (s : ByteArray) (n : Int) : Option ByteArray :=
  cond (decide (0 ≤ n) && (decide (n ≤ 9223372036854775807) && decide (s.size * n.toNat ≤ 140737488355328))) (some ⟨(Lib.repeatL s.data.toList n.toNat).toArray⟩) none

/-! cast_Mod: passkey/passkeycast.Mod -/
noncomputable def cast_Mod (a1 : Int) (a2 : Int) : Option Int :=
  cond ((IntKind.u64.wrap a2) != 0) (
    Option.bind (some ((Int.tmod (IntKind.u64.wrap a1) (IntKind.u64.wrap a2)) : Int)) fun y1 =>
    some (IntKind.i64.wrap y1)) none

/-! ref1_Words: passkey/passkeyref1.Words -/
noncomputable def ref1_Words_l6 : ((List Int × Unit × Int × Int) × List Int) → Option (((List Int × Unit × Int × Int) × List Int) ⊕ ((List Int × Unit × Int) × List Int)) := fun s => match s with
  | ((a1, (), a2, a3), a4) =>
    cond (decide (a3 ≥ 0)) (
      Option.bind (getI a1 a2) fun y1 =>
      Option.bind (some ((IntKind.u64.wrap (IntKind.i64.wrap (8 * a3))) : Int)) fun y2 =>
      cond (decide (0 ≤ y2)) (
        cond (decide (((a4 ++ [(IntKind.u8.wrap (shrI .u64 y1 y2))]).length) * 1 ≤ 140737488355328)) (
          Option.bind (some ((a4 ++ [(IntKind.u8.wrap (shrI .u64 y1 y2))]) : List Int)) fun y3 =>
          some (.inl ((a1, (), a2, (IntKind.i64.wrap (a3 - 1))), y3))) none) none) (
      some (.inr ((a1, (), a2), a4)))
noncomputable def ref1_Words_l3 : ((List Int × Unit × Int) × List Int) → Option (((List Int × Unit × Int) × List Int) ⊕ (Unit × List Int)) := fun s => match s with
  | ((a1, (), a2), a3) =>
    cond (decide (a2 < (((a1.length) : Nat) : Int))) (
      Option.bind (loopFix ref1_Words_l6 ((a1, (), a2, 7), a3)) fun y1 =>
      some (.inl ((y1.1.1, (), (IntKind.i64.wrap (y1.1.2.2 + 1))), y1.2))) (
      some (.inr ((), a3)))
noncomputable def ref1_Words (a1 : List Int) : Option (Unit × List Int) :=
  Option.bind (loopFix ref1_Words_l3 ((a1, (), 0), [])) fun y1 =>
  some ((), y1.2)

/-! ref1_rotl: passkey/passkeyref1.rotl -/
noncomputable def ref1_rotl (a1 : Int) (a2 : Int) : Option Int :=
  cond (decide (0 ≤ a2)) (
    cond (decide (0 ≤ (IntKind.u64.wrap (64 - a2)))) (
      Option.bind (some ((shrI .u64 a1 (IntKind.u64.wrap (64 - a2))) : Int)) fun y1 =>
      some (bitsI .or .u64 (shlI .u64 a1 a2) y1)) none) none

/-! ref1_round: passkey/passkeyref1.round -/
noncomputable def ref1_round (a1 : List Int) : Option (List Int) :=
  Option.bind (a1[0]?) fun y1 =>
  Option.bind (a1[1]?) fun y2 =>
  Option.bind ((a1.set 0 (IntKind.u64.wrap (y1 + y2)))[1]?) fun y3 =>
  Option.bind (ref1_rotl y3 13) fun y4 =>
  Option.bind ((a1.set 0 (IntKind.u64.wrap (y1 + y2)))[0]?) fun y5 =>
  Option.bind (some (((a1.set 0 (IntKind.u64.wrap (y1 + y2))).set 1 (bitsI .xor .u64 y4 y5)) : List Int)) fun y6 =>
  Option.bind (y6[0]?) fun y7 =>
  Option.bind (ref1_rotl y7 32) fun y8 =>
  Option.bind ((y6.set 0 y8)[2]?) fun y9 =>
  Option.bind ((y6.set 0 y8)[3]?) fun y10 =>
  Option.bind (some (((y6.set 0 y8).set 2 (IntKind.u64.wrap (y9 + y10))) : List Int)) fun y11 =>
  Option.bind (y11[3]?) fun y12 =>
  Option.bind (ref1_rotl y12 16) fun y13 =>
  Option.bind (y11[2]?) fun y14 =>
  Option.bind ((y11.set 3 (bitsI .xor .u64 y13 y14))[0]?) fun y15 =>
  Option.bind ((y11.set 3 (bitsI .xor .u64 y13 y14))[3]?) fun y16 =>
  Option.bind (some (((y11.set 3 (bitsI .xor .u64 y13 y14)).set 0 (IntKind.u64.wrap (y15 + y16))) : List Int)) fun y17 =>
  Option.bind (y17[3]?) fun y18 =>
  Option.bind (ref1_rotl y18 21) fun y19 =>
  Option.bind (y17[0]?) fun y20 =>
  Option.bind ((y17.set 3 (bitsI .xor .u64 y19 y20))[2]?) fun y21 =>
  Option.bind ((y17.set 3 (bitsI .xor .u64 y19 y20))[1]?) fun y22 =>
  Option.bind (some (((y17.set 3 (bitsI .xor .u64 y19 y20)).set 2 (IntKind.u64.wrap (y21 + y22))) : List Int)) fun y23 =>
  Option.bind (y23[1]?) fun y24 =>
  Option.bind (ref1_rotl y24 17) fun y25 =>
  Option.bind (y23[2]?) fun y26 =>
  Option.bind ((y23.set 1 (bitsI .xor .u64 y25 y26))[2]?) fun y27 =>
  Option.bind (ref1_rotl y27 32) fun y28 =>
  Option.bind (some (((y23.set 1 (bitsI .xor .u64 y25 y26)).set 2 y28) : List Int)) fun y29 =>
  some y29

/-! ref1_Sum: passkey/passkeyref1.Sum -/
noncomputable def ref1_Sum_j14 : ((List Int × Unit × Int × Int × Int × Int) × List Int) → Option ((List Int × Unit × Int × Int × Int) × List Int) := fun s => match s with
  | ((a1, (), a2, a3, a4, a5), a6) =>
    Option.bind (some ((bitsI .or .u64 (shlI .u64 a3 8) (IntKind.u64.wrap a5)) : Int)) fun y1 =>
    some ((a1, (), a2, y1, a4), a6)
noncomputable def ref1_Sum_l7 : ((List Int × Unit × Int × Int × Int) × List Int) → Option (((List Int × Unit × Int × Int × Int) × List Int) ⊕ ((List Int × Unit × Int × Int) × List Int)) := fun s => match s with
  | ((a1, (), a2, a3, a4), a5) =>
    cond (decide (a4 ≥ 0)) (
      cond (decide ((IntKind.i64.wrap (a2 + a4)) < (((a1.length) : Nat) : Int))) (
        Option.bind (getI a1 (IntKind.i64.wrap (a2 + a4))) fun y1 =>
        Option.bind (ref1_Sum_j14 ((a1, (), a2, a3, a4, y1), a5)) fun y2 =>
        some (.inl ((y2.1.1, (), y2.1.2.2.1, y2.1.2.2.2.1, (IntKind.i64.wrap (y2.1.2.2.2.2 - 1))), y2.2))) (
        cond (a4 == 7) (
          Option.bind (some ((IntKind.u8.wrap (((a1.length) : Nat) : Int)) : Int)) fun y3 =>
          Option.bind (ref1_Sum_j14 ((a1, (), a2, a3, a4, y3), a5)) fun y4 =>
          some (.inl ((y4.1.1, (), y4.1.2.2.1, y4.1.2.2.2.1, (IntKind.i64.wrap (y4.1.2.2.2.2 - 1))), y4.2))) (
          Option.bind (ref1_Sum_j14 ((a1, (), a2, a3, a4, 0), a5)) fun y5 =>
          some (.inl ((y5.1.1, (), y5.1.2.2.1, y5.1.2.2.2.1, (IntKind.i64.wrap (y5.1.2.2.2.2 - 1))), y5.2))))) (
      some (.inr ((a1, (), a2, a3), a5)))
noncomputable def ref1_Sum_l3 : ((List Int × Unit × Int) × List Int) → Option (((List Int × Unit × Int) × List Int) ⊕ (Unit × List Int)) := fun s => match s with
  | ((a1, (), a2), a3) =>
    cond (decide (a2 ≤ (((a1.length) : Nat) : Int))) (
      Option.bind (loopFix ref1_Sum_l7 ((a1, (), a2, 0, 7), a3)) fun y1 =>
      Option.bind (y1.2[3]?) fun y2 =>
      Option.bind (some ((y1.2.set 3 (bitsI .xor .u64 y2 y1.1.2.2.2)) : List Int)) fun y3 =>
      Option.bind (ref1_round y3) fun y4 =>
      Option.bind (ref1_round y4) fun y5 =>
      Option.bind (y5[0]?) fun y6 =>
      Option.bind (some ((y5.set 0 (bitsI .xor .u64 y6 y1.1.2.2.2)) : List Int)) fun y7 =>
      some (.inl ((y1.1.1, (), (IntKind.i64.wrap (y1.1.2.2.1 + 8))), y7))) (
      some (.inr ((), a3)))
noncomputable def ref1_Sum (a1 : Int) (a2 : Int) (a3 : List Int) : Option Int :=
  Option.bind (loopFix ref1_Sum_l3 ((a3, (), 0), [(bitsI .xor .u64 a1 8317987319222330741), (bitsI .xor .u64 a2 7237128888997146477), (bitsI .xor .u64 a1 7816392313619706465), (bitsI .xor .u64 a2 8387220255154660723)])) fun y1 =>
  Option.bind (y1.2[2]?) fun y2 =>
  Option.bind (ref1_round (y1.2.set 2 (bitsI .xor .u64 y2 255))) fun y3 =>
  Option.bind (ref1_round y3) fun y4 =>
  Option.bind (ref1_round y4) fun y5 =>
  Option.bind (ref1_round y5) fun y6 =>
  Option.bind (y6[0]?) fun y7 =>
  Option.bind (y6[1]?) fun y8 =>
  Option.bind (y6[2]?) fun y9 =>
  Option.bind (some ((bitsI .xor .u64 (bitsI .xor .u64 y7 y8) y9) : Int)) fun y10 =>
  Option.bind (y6[3]?) fun y11 =>
  some (bitsI .xor .u64 y10 y11)

/-! ref1_Mac: passkey/passkeyref1.Mac -/
noncomputable def ref1_Mac (a1 : Int) (a2 : Int) (a3 : List Int) : Option Int :=
  Option.bind (some ((IntKind.u64.wrap (1 + (IntKind.u64.wrap a2))) : Int)) fun y1 =>
  Option.bind (ref1_Sum a1 y1 a3) fun y2 =>
  some y2

/-! ref3_Stream: passkey/passkeyref3.Stream -/
noncomputable def ref3_Stream_l4 : ((Int × Int × Int × Unit × Int) × List Int) → Option (((Int × Int × Int × Unit × Int) × List Int) ⊕ ((Int × Unit) × List Int)) := fun s => match s with
  | ((a1, a2, a3, (), a4), a5) =>
    cond (decide ((((a5.length) : Nat) : Int) < a3)) (
      Option.bind (ref1_Words [a2, (IntKind.u64.wrap a4)]) fun y1 =>
      Option.bind (ref1_Mac a1 5 y1.2) fun y2 =>
      Option.bind (ref1_Words [y2]) fun y3 =>
      cond (decide (((a5 ++ y3.2).length) * 1 ≤ 140737488355328)) (
        some (.inl ((a1, a2, a3, (), (IntKind.i64.wrap (a4 + 1))), (a5 ++ y3.2)))) none) (
      some (.inr ((a3, ()), a5)))
noncomputable def ref3_Stream (a1 : Int) (a2 : Int) (a3 : Int) : Option (Unit × List Int) :=
  Option.bind (some ((if 1024 < (if 0 > a3 then 0 else a3) then 1024 else (if 0 > a3 then 0 else a3)) : Int)) fun y1 =>
  Option.bind (loopFix ref3_Stream_l4 ((a1, a2, y1, (), 0), [])) fun y2 =>
  cond (okBounds 0 y2.1.1 (y2.2.length)) (
    some ((), (cut y2.2 0 y2.1.1))) none

/-! cast_Bytes: passkey/passkeycast.Bytes -/
noncomputable def cast_Bytes (a1 : Int) (a2 : Int) : Option (Unit × List Int) :=
  Option.bind (some ((IntKind.u64.wrap ((IntKind.u64.wrap a1) + 1)) : Int)) fun y1 =>
  Option.bind (some ((if 0 > (if 1024 < a2 then 1024 else a2) then 0 else (if 1024 < a2 then 1024 else a2)) : Int)) fun y2 =>
  Option.bind (ref3_Stream y1 7 y2) fun y3 =>
  some ((), y3.2)

/-! law30_stored: passkey/passkeylaw30.stored -/
noncomputable def law30_stored (a1 : Int) (a2 : Int) : Option (List Int × Int × Int × Int × Int × Bool × Int × List PD × Bool × Int × Int) :=
  Option.bind (cast_Mod a1 12) fun y1 =>
  Option.bind (cast_Bytes (IntKind.i64.wrap (600 + y1)) 176) fun y2 =>
  some (y2.2, a2, 5, 0, 0, false, 0, [], false, 3, 0)

/-! account_Accept_1_67e: passkey/account.Accept$1 -/
noncomputable def account_Accept_1_67e (a1 : Int) (a2 : Int) (a3 : Int) : Option (Bool × Int) :=
  some ((a1 == a3), a3)

/-! slices_IndexFunc_Lapi_Range_api_Range_026: slices.IndexFunc[[]passkey/api.Range,passkey/api.Range] -/
noncomputable def slices_IndexFunc_Lapi_Range_api_Range_026_l2 : ((List PD × (Unit × Unit) × Int × Int) × Int) → Option (((List PD × (Unit × Unit) × Int × Int) × Int) ⊕ ((Int × Int) ⊕ (Unit × Int))) := fun s => match s with
  | ((a1, ((), ()), a2, a3), a4) =>
    cond (decide (a3 < a2)) (
      Option.bind (getI a1 a3) fun y1 =>
      Option.bind (PD.intAt .i64 y1 0) fun y2 =>
      Option.bind (PD.intAt .i64 y1 1) fun y3 =>
      Option.bind (account_Accept_1_67e y2 y3 a4) fun y4 =>
      cond y4.1 (
        some (.inr (.inl (a3, y4.2)))) (
        some (.inl ((a1, ((), ()), a2, (IntKind.i64.wrap (a3 + 1))), y4.2)))) (
      some (.inr (.inr ((), a4))))
noncomputable def slices_IndexFunc_Lapi_Range_api_Range_026 (a1 : List PD) (a2 : Int) : Option (Int × Int) :=
  Option.bind (loopFix slices_IndexFunc_Lapi_Range_api_Range_026_l2 ((a1, ((), ()), (((a1.length) : Nat) : Int), 0), a2)) fun y1 =>
  match y1 with
  | (.inl y2) =>
    some (y2.1, y2.2)
  | (.inr y3) =>
    some ((-1), y3.2)

/-! slices_Clone_Lapi_Range_api_Range: slices.Clone[[]passkey/api.Range,passkey/api.Range] -/
noncomputable def slices_Clone_Lapi_Range_api_Range (a1 : List PD) : Option (Unit × List PD) :=
  cond (List.isEmpty a1) (
    ambO (
      some ((), [])) (
      cond (decide ((([] ++ a1).length) * 16 ≤ 140737488355328)) (
        some ((), ([] ++ a1))) none)) (
    cond (decide ((([] ++ a1).length) * 16 ≤ 140737488355328)) (
      some ((), ([] ++ a1))) none)

/-! account_Accept_2_67e: passkey/account.Accept$2 -/
noncomputable def account_Accept_2_67e (a1 : Int) (a2 : Int) (a3 : Int) : Option (Bool × Int) :=
  some ((decide (a1 > a3)), a3)

/-! slices_IndexFunc_Lapi_Range_api_Range_b38: slices.IndexFunc[[]passkey/api.Range,passkey/api.Range] -/
noncomputable def slices_IndexFunc_Lapi_Range_api_Range_b38_l2 : ((List PD × (Unit × Unit) × Int × Int) × Int) → Option (((List PD × (Unit × Unit) × Int × Int) × Int) ⊕ ((Int × Int) ⊕ (Unit × Int))) := fun s => match s with
  | ((a1, ((), ()), a2, a3), a4) =>
    cond (decide (a3 < a2)) (
      Option.bind (getI a1 a3) fun y1 =>
      Option.bind (PD.intAt .i64 y1 0) fun y2 =>
      Option.bind (PD.intAt .i64 y1 1) fun y3 =>
      Option.bind (account_Accept_2_67e y2 y3 a4) fun y4 =>
      cond y4.1 (
        some (.inr (.inl (a3, y4.2)))) (
        some (.inl ((a1, ((), ()), a2, (IntKind.i64.wrap (a3 + 1))), y4.2)))) (
      some (.inr (.inr ((), a4))))
noncomputable def slices_IndexFunc_Lapi_Range_api_Range_b38 (a1 : List PD) (a2 : Int) : Option (Int × Int) :=
  Option.bind (loopFix slices_IndexFunc_Lapi_Range_api_Range_b38_l2 ((a1, ((), ()), (((a1.length) : Nat) : Int), 0), a2)) fun y1 =>
  match y1 with
  | (.inl y2) =>
    some (y2.1, y2.2)
  | (.inr y3) =>
    some ((-1), y3.2)

/-! slices_Insert_Lapi_Range_api_Range_277: slices.Insert[[]passkey/api.Range,passkey/api.Range] -/
noncomputable def slices_Insert_Lapi_Range_api_Range_277 (a1 : Int) (a2 : List PD) (a3 : List PD) : Option (Unit × (Unit × List PD × List PD)) :=
  cond (okBounds a1 (((a2.length) : Nat) : Int) (a2.length)) (
    cond ((((a3.length) : Nat) : Int) == 0) (
      none) (
      cond (a1 == (((a2.length) : Nat) : Int)) (
        cond (decide (((a2 ++ a3).length) * 16 ≤ 140737488355328)) (
          some ((), ((), a3, (a2 ++ a3)))) none) (
        Option.bind (some ((IntKind.i64.wrap ((((a2.length) : Nat) : Int) + (((a3.length) : Nat) : Int))) : Int)) fun y1 =>
        none))) none

/-! account_Accept: passkey/account.Accept -/
noncomputable def account_Accept_j19B (a1 : Int) (a2 : Int) (a3 : List Int) (a4 : Int) (a5 : Int) (a6 : Int) (a7 : Int) (a8 : Bool) (a9 : Int) (a10 : List PD) (a11 : Bool) (a12 : Int) (a13 : Int) (a14 : List Int) (a15 : Int) (a16 : Int) (a17 : Int) (a18 : Int) (a19 : Bool) (a20 : Int) (a21 : List PD) (a22 : Bool) (a23 : Int) (a24 : Int) (a25 : List PD) : Option ((Unit × Int) × ((List Int × Int × Int × Int × Int × Bool × Int × Unit × Bool × Int × Int) × List PD)) :=
  cond (decide (0 ≤ a1)) (
    some (((), 0), ((a3, a4, a5, a6, a7, a8, (bitsI .or .u64 a9 (shlI .u64 1 a1)), (), a11, a12, a2), a25))) none
noncomputable def account_Accept_j19 : ((Int × Int × Unit × Unit × Unit) × ((List Int × Int × Int × Int × Int × Bool × Int × List PD × Bool × Int × Int) × (List Int × Int × Int × Int × Int × Bool × Int × List PD × Bool × Int × Int) × List PD)) → Option ((Unit × Int) × ((List Int × Int × Int × Int × Int × Bool × Int × Unit × Bool × Int × Int) × List PD)) := fun s => account_Accept_j19B s.1.1 s.1.2.1 s.2.1.1 s.2.1.2.1 s.2.1.2.2.1 s.2.1.2.2.2.1 s.2.1.2.2.2.2.1 s.2.1.2.2.2.2.2.1 s.2.1.2.2.2.2.2.2.1 s.2.1.2.2.2.2.2.2.2.1 s.2.1.2.2.2.2.2.2.2.2.1 s.2.1.2.2.2.2.2.2.2.2.2.1 s.2.1.2.2.2.2.2.2.2.2.2.2 s.2.2.1.1 s.2.2.1.2.1 s.2.2.1.2.2.1 s.2.2.1.2.2.2.1 s.2.2.1.2.2.2.2.1 s.2.2.1.2.2.2.2.2.1 s.2.2.1.2.2.2.2.2.2.1 s.2.2.1.2.2.2.2.2.2.2.1 s.2.2.1.2.2.2.2.2.2.2.2.1 s.2.2.1.2.2.2.2.2.2.2.2.2.1 s.2.2.1.2.2.2.2.2.2.2.2.2.2 s.2.2.2
noncomputable def account_Accept_j18B (a1 : Int) (a2 : Int) (a3 : Int) (a4 : List Int) (a5 : Int) (a6 : Int) (a7 : Int) (a8 : Int) (a9 : Bool) (a10 : Int) (a11 : List PD) (a12 : Bool) (a13 : Int) (a14 : Int) (a15 : Int) (a16 : List Int) (a17 : Int) (a18 : Int) (a19 : Int) (a20 : Int) (a21 : Bool) (a22 : Int) (a23 : List PD) (a24 : Bool) (a25 : Int) (a26 : Int) (a27 : List PD) : Option ((Int × Int × Unit × Unit × Unit) × ((List Int × Int × Int × Int × Int × Bool × Int × List PD × Bool × Int × Int) × (List Int × Int × Int × Int × Int × Bool × Int × List PD × Bool × Int × Int) × List PD)) :=
  Option.bind (slices_Insert_Lapi_Range_api_Range_277 a3 a27 [(PD.agg [(.int .i64 a15), (.int .i64 a1)])]) fun y1 =>
  some ((a1, a2, (), (), ()), ((a4, a5, a6, a7, a8, a9, a10, a11, a12, a13, a14), (a16, a17, a18, a19, a20, a21, a22, a23, a24, a25, a26), y1.2.2.2))
noncomputable def account_Accept_j18 : ((Int × Int × Unit × Unit × Unit × Int × Unit) × ((List Int × Int × Int × Int × Int × Bool × Int × List PD × Bool × Int × Int) × Int × (List Int × Int × Int × Int × Int × Bool × Int × List PD × Bool × Int × Int) × List PD)) → Option ((Int × Int × Unit × Unit × Unit) × ((List Int × Int × Int × Int × Int × Bool × Int × List PD × Bool × Int × Int) × (List Int × Int × Int × Int × Int × Bool × Int × List PD × Bool × Int × Int) × List PD)) := fun s => account_Accept_j18B s.1.1 s.1.2.1 s.1.2.2.2.2.2.1 s.2.1.1 s.2.1.2.1 s.2.1.2.2.1 s.2.1.2.2.2.1 s.2.1.2.2.2.2.1 s.2.1.2.2.2.2.2.1 s.2.1.2.2.2.2.2.2.1 s.2.1.2.2.2.2.2.2.2.1 s.2.1.2.2.2.2.2.2.2.2.1 s.2.1.2.2.2.2.2.2.2.2.2.1 s.2.1.2.2.2.2.2.2.2.2.2.2 s.2.2.1 s.2.2.2.1.1 s.2.2.2.1.2.1 s.2.2.2.1.2.2.1 s.2.2.2.1.2.2.2.1 s.2.2.2.1.2.2.2.2.1 s.2.2.2.1.2.2.2.2.2.1 s.2.2.2.1.2.2.2.2.2.2.1 s.2.2.2.1.2.2.2.2.2.2.2.1 s.2.2.2.1.2.2.2.2.2.2.2.2.1 s.2.2.2.1.2.2.2.2.2.2.2.2.2.1 s.2.2.2.1.2.2.2.2.2.2.2.2.2.2 s.2.2.2.2
noncomputable def account_Accept (a1 : List Int) (a2 : Int) (a3 : Int) (a4 : Int) (a5 : Int) (a6 : Bool) (a7 : Int) (a8 : List PD) (a9 : Bool) (a10 : Int) (a11 : Int) (a12 : Int) (a13 : Int) (a14 : Int) : Option ((List Int × Int × Int × Int × Int × Bool × Int × List PD × Bool × Int × Int) × Int) :=
  cond (decide (a2 < 0)) (
    some ((a1, a2, a3, a4, a5, a6, a7, a8, a9, a10, a11), 9)) (
    cond (decide (a2 > 4)) (
      some ((a1, a2, a3, a4, a5, a6, a7, a8, a9, a10, a11), 9)) (
      cond (decide (a13 < 0)) (
        some ((a1, a2, a3, a4, a5, a6, a7, a8, a9, a10, a11), 9)) (
        cond (decide (a12 < a13)) (
          some ((a1, a2, a3, a4, a5, a6, a7, a8, a9, a10, a11), 9)) (
          cond (decide (0 ≤ a2)) (
            cond (decide (a12 ≥ (shlI .i64 1 a2))) (
              some ((a1, a2, a3, a4, a5, a6, a7, a8, a9, a10, a11), 9)) (
              cond a9 (
                some ((a1, a2, a3, a4, a5, a6, a7, a8, a9, a10, a11), 39)) (
                cond (decide (0 ≤ a12)) (
                  cond ((bitsI .and .u64 (shrI .u64 a7 a12) 1) == 1) (
                    some ((a1, a2, a3, a4, a5, a6, a7, a8, true, a10, a11), 37)) (
                    Option.bind (slices_IndexFunc_Lapi_Range_api_Range_026 a8 a13) fun y1 =>
                    cond (decide (y1.1 ≥ 0)) (
                      Option.bind (getI a8 y1.1) fun y2 =>
                      Option.bind (PD.intAt .i64 y2 1) fun y3 =>
                      cond (decide (y3 ≥ a12)) (
                        some ((a1, a2, a3, a4, a5, a6, a7, a8, a9, a10, a11), 37)) (
                        Option.bind (slices_Clone_Lapi_Range_api_Range a8) fun y4 =>
                        cond (decide (y1.1 ≥ 0)) (
                          cond (inRange y1.1 (y4.2.length)) (
                            Option.bind (y4.2[(Int.toNat y1.1)]?) fun y5 =>
                            Option.bind (PD.intAt .i64 y5 0) fun y6 =>
                            Option.bind (PD.intAt .i64 y5 1) fun y7 =>
                            Option.bind (some ((y4.2.set (Int.toNat y1.1) (.agg [(.int .i64 y6), (.int .i64 a12)])) : List PD)) fun y8 =>
                            Option.bind (account_Accept_j19 ((a12, a14, (), (), ()), ((a1, a2, a3, a4, a5, a6, a7, a8, a9, a10, a11), ([], 0, 0, 0, 0, false, 0, [], false, 0, 0), y8))) fun y9 =>
                            some ((y9.2.1.1, y9.2.1.2.1, y9.2.1.2.2.1, y9.2.1.2.2.2.1, y9.2.1.2.2.2.2.1, y9.2.1.2.2.2.2.2.1, y9.2.1.2.2.2.2.2.2.1, y9.2.2, y9.2.1.2.2.2.2.2.2.2.2.1, y9.2.1.2.2.2.2.2.2.2.2.2.1, y9.2.1.2.2.2.2.2.2.2.2.2.2), y9.1.2)) none) (
                          Option.bind (slices_IndexFunc_Lapi_Range_api_Range_b38 y4.2 y1.2) fun y10 =>
                          cond (decide (y10.1 < 0)) (
                            Option.bind (account_Accept_j18 ((a12, a14, (), (), (), (((y4.2.length) : Nat) : Int), ()), ((a1, a2, a3, a4, a5, a6, a7, a8, a9, a10, a11), y10.2, ([], 0, 0, 0, 0, false, 0, [], false, 0, 0), y4.2))) fun y11 =>
                            Option.bind (account_Accept_j19 ((y11.1.1, y11.1.2.1, (), (), ()), ((y11.2.1.1, y11.2.1.2.1, y11.2.1.2.2.1, y11.2.1.2.2.2.1, y11.2.1.2.2.2.2.1, y11.2.1.2.2.2.2.2.1, y11.2.1.2.2.2.2.2.2.1, y11.2.1.2.2.2.2.2.2.2.1, y11.2.1.2.2.2.2.2.2.2.2.1, y11.2.1.2.2.2.2.2.2.2.2.2.1, y11.2.1.2.2.2.2.2.2.2.2.2.2), (y11.2.2.1.1, y11.2.2.1.2.1, y11.2.2.1.2.2.1, y11.2.2.1.2.2.2.1, y11.2.2.1.2.2.2.2.1, y11.2.2.1.2.2.2.2.2.1, y11.2.2.1.2.2.2.2.2.2.1, y11.2.2.1.2.2.2.2.2.2.2.1, y11.2.2.1.2.2.2.2.2.2.2.2.1, y11.2.2.1.2.2.2.2.2.2.2.2.2.1, y11.2.2.1.2.2.2.2.2.2.2.2.2.2), y11.2.2.2))) fun y12 =>
                            some ((y12.2.1.1, y12.2.1.2.1, y12.2.1.2.2.1, y12.2.1.2.2.2.1, y12.2.1.2.2.2.2.1, y12.2.1.2.2.2.2.2.1, y12.2.1.2.2.2.2.2.2.1, y12.2.2, y12.2.1.2.2.2.2.2.2.2.2.1, y12.2.1.2.2.2.2.2.2.2.2.2.1, y12.2.1.2.2.2.2.2.2.2.2.2.2), y12.1.2)) (
                            Option.bind (account_Accept_j18 ((a12, a14, (), (), (), y10.1, ()), ((a1, a2, a3, a4, a5, a6, a7, a8, a9, a10, a11), y10.2, ([], 0, 0, 0, 0, false, 0, [], false, 0, 0), y4.2))) fun y13 =>
                            Option.bind (account_Accept_j19 ((y13.1.1, y13.1.2.1, (), (), ()), ((y13.2.1.1, y13.2.1.2.1, y13.2.1.2.2.1, y13.2.1.2.2.2.1, y13.2.1.2.2.2.2.1, y13.2.1.2.2.2.2.2.1, y13.2.1.2.2.2.2.2.2.1, y13.2.1.2.2.2.2.2.2.2.1, y13.2.1.2.2.2.2.2.2.2.2.1, y13.2.1.2.2.2.2.2.2.2.2.2.1, y13.2.1.2.2.2.2.2.2.2.2.2.2), (y13.2.2.1.1, y13.2.2.1.2.1, y13.2.2.1.2.2.1, y13.2.2.1.2.2.2.1, y13.2.2.1.2.2.2.2.1, y13.2.2.1.2.2.2.2.2.1, y13.2.2.1.2.2.2.2.2.2.1, y13.2.2.1.2.2.2.2.2.2.2.1, y13.2.2.1.2.2.2.2.2.2.2.2.1, y13.2.2.1.2.2.2.2.2.2.2.2.2.1, y13.2.2.1.2.2.2.2.2.2.2.2.2.2), y13.2.2.2))) fun y14 =>
                            some ((y14.2.1.1, y14.2.1.2.1, y14.2.1.2.2.1, y14.2.1.2.2.2.1, y14.2.1.2.2.2.2.1, y14.2.1.2.2.2.2.2.1, y14.2.1.2.2.2.2.2.2.1, y14.2.2, y14.2.1.2.2.2.2.2.2.2.2.1, y14.2.1.2.2.2.2.2.2.2.2.2.1, y14.2.1.2.2.2.2.2.2.2.2.2.2), y14.1.2))))) (
                      Option.bind (slices_Clone_Lapi_Range_api_Range a8) fun y15 =>
                      cond (decide (y1.1 ≥ 0)) (
                        cond (inRange y1.1 (y15.2.length)) (
                          Option.bind (y15.2[(Int.toNat y1.1)]?) fun y16 =>
                          Option.bind (PD.intAt .i64 y16 0) fun y17 =>
                          Option.bind (PD.intAt .i64 y16 1) fun y18 =>
                          Option.bind (some ((y15.2.set (Int.toNat y1.1) (.agg [(.int .i64 y17), (.int .i64 a12)])) : List PD)) fun y19 =>
                          Option.bind (account_Accept_j19 ((a12, a14, (), (), ()), ((a1, a2, a3, a4, a5, a6, a7, a8, a9, a10, a11), ([], 0, 0, 0, 0, false, 0, [], false, 0, 0), y19))) fun y20 =>
                          some ((y20.2.1.1, y20.2.1.2.1, y20.2.1.2.2.1, y20.2.1.2.2.2.1, y20.2.1.2.2.2.2.1, y20.2.1.2.2.2.2.2.1, y20.2.1.2.2.2.2.2.2.1, y20.2.2, y20.2.1.2.2.2.2.2.2.2.2.1, y20.2.1.2.2.2.2.2.2.2.2.2.1, y20.2.1.2.2.2.2.2.2.2.2.2.2), y20.1.2)) none) (
                        Option.bind (slices_IndexFunc_Lapi_Range_api_Range_b38 y15.2 y1.2) fun y21 =>
                        cond (decide (y21.1 < 0)) (
                          Option.bind (account_Accept_j18 ((a12, a14, (), (), (), (((y15.2.length) : Nat) : Int), ()), ((a1, a2, a3, a4, a5, a6, a7, a8, a9, a10, a11), y21.2, ([], 0, 0, 0, 0, false, 0, [], false, 0, 0), y15.2))) fun y22 =>
                          Option.bind (account_Accept_j19 ((y22.1.1, y22.1.2.1, (), (), ()), ((y22.2.1.1, y22.2.1.2.1, y22.2.1.2.2.1, y22.2.1.2.2.2.1, y22.2.1.2.2.2.2.1, y22.2.1.2.2.2.2.2.1, y22.2.1.2.2.2.2.2.2.1, y22.2.1.2.2.2.2.2.2.2.1, y22.2.1.2.2.2.2.2.2.2.2.1, y22.2.1.2.2.2.2.2.2.2.2.2.1, y22.2.1.2.2.2.2.2.2.2.2.2.2), (y22.2.2.1.1, y22.2.2.1.2.1, y22.2.2.1.2.2.1, y22.2.2.1.2.2.2.1, y22.2.2.1.2.2.2.2.1, y22.2.2.1.2.2.2.2.2.1, y22.2.2.1.2.2.2.2.2.2.1, y22.2.2.1.2.2.2.2.2.2.2.1, y22.2.2.1.2.2.2.2.2.2.2.2.1, y22.2.2.1.2.2.2.2.2.2.2.2.2.1, y22.2.2.1.2.2.2.2.2.2.2.2.2.2), y22.2.2.2))) fun y23 =>
                          some ((y23.2.1.1, y23.2.1.2.1, y23.2.1.2.2.1, y23.2.1.2.2.2.1, y23.2.1.2.2.2.2.1, y23.2.1.2.2.2.2.2.1, y23.2.1.2.2.2.2.2.2.1, y23.2.2, y23.2.1.2.2.2.2.2.2.2.2.1, y23.2.1.2.2.2.2.2.2.2.2.2.1, y23.2.1.2.2.2.2.2.2.2.2.2.2), y23.1.2)) (
                          Option.bind (account_Accept_j18 ((a12, a14, (), (), (), y21.1, ()), ((a1, a2, a3, a4, a5, a6, a7, a8, a9, a10, a11), y21.2, ([], 0, 0, 0, 0, false, 0, [], false, 0, 0), y15.2))) fun y24 =>
                          Option.bind (account_Accept_j19 ((y24.1.1, y24.1.2.1, (), (), ()), ((y24.2.1.1, y24.2.1.2.1, y24.2.1.2.2.1, y24.2.1.2.2.2.1, y24.2.1.2.2.2.2.1, y24.2.1.2.2.2.2.2.1, y24.2.1.2.2.2.2.2.2.1, y24.2.1.2.2.2.2.2.2.2.1, y24.2.1.2.2.2.2.2.2.2.2.1, y24.2.1.2.2.2.2.2.2.2.2.2.1, y24.2.1.2.2.2.2.2.2.2.2.2.2), (y24.2.2.1.1, y24.2.2.1.2.1, y24.2.2.1.2.2.1, y24.2.2.1.2.2.2.1, y24.2.2.1.2.2.2.2.1, y24.2.2.1.2.2.2.2.2.1, y24.2.2.1.2.2.2.2.2.2.1, y24.2.2.1.2.2.2.2.2.2.2.1, y24.2.2.1.2.2.2.2.2.2.2.2.1, y24.2.2.1.2.2.2.2.2.2.2.2.2.1, y24.2.2.1.2.2.2.2.2.2.2.2.2.2), y24.2.2.2))) fun y25 =>
                          some ((y25.2.1.1, y25.2.1.2.1, y25.2.1.2.2.1, y25.2.1.2.2.2.1, y25.2.1.2.2.2.2.1, y25.2.1.2.2.2.2.2.1, y25.2.1.2.2.2.2.2.2.1, y25.2.2, y25.2.1.2.2.2.2.2.2.2.2.1, y25.2.1.2.2.2.2.2.2.2.2.2.1, y25.2.1.2.2.2.2.2.2.2.2.2.2), y25.1.2)))))) none))) none))))

/-! account_index: passkey/account.index -/
noncomputable def account_index_l2 : (List Int × List PD × Int × Int) → Option ((List Int × List PD × Int × Int) ⊕ (Int ⊕ Unit)) := fun s => match s with
  | (a1, a2, a3, a4) =>
    cond (decide (a4 < a3)) (
      Option.bind (getI a2 a4) fun y1 =>
      Option.bind (PD.numsAt .u8 y1 0) fun y2 =>
      Option.bind (PD.intAt .i64 y1 1) fun y3 =>
      Option.bind (PD.intAt .u64 y1 2) fun y4 =>
      Option.bind (PD.intAt .u64 y1 3) fun y5 =>
      Option.bind (PD.intAt .i64 y1 4) fun y6 =>
      Option.bind (PD.boolAt y1 5) fun y7 =>
      Option.bind (PD.intAt .u64 y1 6) fun y8 =>
      Option.bind (PD.slAt 2 y1 7) fun y9 =>
      Option.bind (PD.boolAt y1 8) fun y10 =>
      Option.bind (PD.intAt .i64 y1 9) fun y11 =>
      Option.bind (PD.intAt .i64 y1 10) fun y12 =>
      cond (strEq (strOf y2) (strOf a1)) (
        some (.inr (.inl a4))) (
        some (.inl (a1, a2, a3, (IntKind.i64.wrap (a4 + 1)))))) (
      some (.inr (.inr ())))
noncomputable def account_index (a1 : ByteArray) (a2 : ByteArray) (a3 : List PD) (a4 : List Int) : Option Int :=
  Option.bind (loopFix account_index_l2 (a4, a3, (((a3.length) : Nat) : Int), 0)) fun y1 =>
  match y1 with
  | (.inl y2) =>
    some y2
  | (.inr y3) =>
    some (-1)

/-! account_Owner: passkey/account.Owner -/
noncomputable def account_Owner_l2 : (List Int × List PD × Int × Int) → Option ((List Int × List PD × Int × Int) ⊕ ((Int × Int × Bool) ⊕ Unit)) := fun s => match s with
  | (a1, a2, a3, a4) =>
    cond (decide (a4 < a3)) (
      Option.bind (getI a2 a4) fun y1 =>
      Option.bind (PD.strAt y1 0) fun y2 =>
      Option.bind (PD.strAt y1 1) fun y3 =>
      Option.bind (PD.slAt 11 y1 2) fun y4 =>
      Option.bind (account_index y2 y3 y4 a1) fun y5 =>
      cond (decide (y5 ≥ 0)) (
        some (.inr (.inl (a4, y5, true)))) (
        some (.inl (a1, a2, a3, (IntKind.i64.wrap (a4 + 1)))))) (
      some (.inr (.inr ())))
noncomputable def account_Owner (a1 : List PD) (a2 : List Int) : Option (Int × Int × Bool) :=
  Option.bind (loopFix account_Owner_l2 (a2, a1, (((a1.length) : Nat) : Int), 0)) fun y1 =>
  match y1 with
  | (.inl y2) =>
    some (y2.1, y2.2.1, y2.2.2)
  | (.inr y3) =>
    some (0, 0, false)

/-! account_Find: passkey/account.Find -/
noncomputable def account_Find_l2 : (ByteArray × List PD × Int × Int) → Option ((ByteArray × List PD × Int × Int) ⊕ ((Int × Bool) ⊕ Unit)) := fun s => match s with
  | (a1, a2, a3, a4) =>
    cond (decide (a4 < a3)) (
      Option.bind (getI a2 a4) fun y1 =>
      Option.bind (PD.strAt y1 0) fun y2 =>
      Option.bind (PD.strAt y1 1) fun y3 =>
      Option.bind (PD.slAt 11 y1 2) fun y4 =>
      cond (strEq y2 a1) (
        some (.inr (.inl (a4, true)))) (
        some (.inl (a1, a2, a3, (IntKind.i64.wrap (a4 + 1)))))) (
      some (.inr (.inr ())))
noncomputable def account_Find (a1 : List PD) (a2 : ByteArray) : Option (Int × Bool) :=
  Option.bind (loopFix account_Find_l2 (a2, a1, (((a1.length) : Nat) : Int), 0)) fun y1 =>
  match y1 with
  | (.inl y2) =>
    some (y2.1, y2.2)
  | (.inr y3) =>
    some (0, false)

/-! slices_Clone_Lapi_Stored_api_Stored: slices.Clone[[]passkey/api.Stored,passkey/api.Stored] -/
noncomputable def slices_Clone_Lapi_Stored_api_Stored (a1 : List PD) : Option (Unit × List PD) :=
  cond (List.isEmpty a1) (
    ambO (
      some ((), [])) (
      cond (decide ((([] ++ a1).length) * 120 ≤ 140737488355328)) (
        some ((), ([] ++ a1))) none)) (
    cond (decide ((([] ++ a1).length) * 120 ≤ 140737488355328)) (
      some ((), ([] ++ a1))) none)

/-! account_clone: passkey/account.clone -/
noncomputable def account_clone_l3 : ((Unit × List PD × Int × Int) × List PD) → Option (((Unit × List PD × Int × Int) × List PD) ⊕ (Unit × List PD)) := fun s => match s with
  | (((), a1, a2, a3), a4) =>
    cond (decide (a3 < a2)) (
      Option.bind (getI a1 a3) fun y1 =>
      Option.bind (PD.strAt y1 0) fun y2 =>
      Option.bind (PD.strAt y1 1) fun y3 =>
      Option.bind (PD.slAt 11 y1 2) fun y4 =>
      Option.bind (slices_Clone_Lapi_Stored_api_Stored y4) fun y5 =>
      cond (inRange a3 (a4.length)) (
        cond (decide ((Int.toNat a3) < (a4.length))) (
          Option.bind (some ((a4.set (Int.toNat a3) (.agg [(.str y2), (.str y3), (.sl 11 y5.2)])) : List PD)) fun y6 =>
          some (.inl (((), a1, a2, (IntKind.i64.wrap (a3 + 1))), y6))) none) none) (
      some (.inr ((), a4)))
noncomputable def account_clone (a1 : List PD) : Option (Unit × List PD) :=
  cond (decide (0 ≤ (((a1.length) : Nat) : Int)) && (decide ((((a1.length) : Nat) : Int) ≤ (((a1.length) : Nat) : Int)) && decide ((((a1.length) : Nat) : Int) * 56 ≤ 140737488355328))) (
    Option.bind (some ((List.replicate (Int.toNat (((a1.length) : Nat) : Int)) (.agg [(.str (bs [])), (.str (bs [])), (.opq (.slice none 0 0))])) : List PD)) fun y1 =>
    Option.bind (loopFix account_clone_l3 (((), a1, (((a1.length) : Nat) : Int), 0), y1)) fun y2 =>
    some ((), y2.2)) none

/-! account_Enroll: passkey/account.Enroll -/
noncomputable def account_Enroll (a1 : List PD) (a2 : ByteArray) (a3 : ByteArray) (a4 : List Int) (a5 : Int) (a6 : Int) (a7 : Int) (a8 : Int) (a9 : Bool) (a10 : Int) (a11 : List PD) (a12 : Bool) (a13 : Int) (a14 : Int) : Option ((Unit × Int) × List PD) :=
  cond (decide ((((a2.size) : Nat) : Int) < 1)) (
    some (((), 9), [])) (
    cond (decide ((((a2.size) : Nat) : Int) > 32)) (
      some (((), 9), [])) (
      cond ((((a4.length) : Nat) : Int) != 176) (
        some (((), 4), [])) (
        Option.bind (account_Owner a1 a4) fun y1 =>
        cond y1.2.2 (
          some (((), 10), [])) (
          Option.bind (account_Find a1 a2) fun y2 =>
          cond y2.2 (
            Option.bind (getI a1 y2.1) fun y3 =>
            Option.bind (PD.slAt 11 y3 2) fun y4 =>
            cond (decide ((((y4.length) : Nat) : Int) ≥ 4)) (
              some (((), 12), [])) (
              cond (!y2.2) (
                cond (decide ((((a1.length) : Nat) : Int) ≥ 16)) (
                  some (((), 12), [])) (
                  Option.bind (account_clone a1) fun y5 =>
                  cond (!y2.2) (
                    cond (decide (((y5.2 ++ [(PD.agg [(.str a2), (.str a3), (.sl 11 [(PD.agg [(.nums .u8 a4), (.int .i64 a5), (.int .u64 a6), (.int .u64 a7), (.int .i64 a8), (.bool a9), (.int .u64 a10), (.sl 2 a11), (.bool a12), (.int .i64 a13), (.int .i64 a14)])])])]).length) * 56 ≤ 140737488355328)) (
                      Option.bind (some ((y5.2 ++ [(PD.agg [(.str a2), (.str a3), (.sl 11 [(PD.agg [(.nums .u8 a4), (.int .i64 a5), (.int .u64 a6), (.int .u64 a7), (.int .i64 a8), (.bool a9), (.int .u64 a10), (.sl 2 a11), (.bool a12), (.int .i64 a13), (.int .i64 a14)])])])]) : List PD)) fun y6 =>
                      some (((), 0), y6)) none) (
                    cond (inRange y2.1 (y5.2.length)) (
                      Option.bind (y5.2[(Int.toNat y2.1)]?) fun y7 =>
                      Option.bind (PD.slAt 11 y7 2) fun y8 =>
                      none) none))) (
                Option.bind (account_clone a1) fun y9 =>
                cond (!y2.2) (
                  cond (decide (((y9.2 ++ [(PD.agg [(.str a2), (.str a3), (.sl 11 [(PD.agg [(.nums .u8 a4), (.int .i64 a5), (.int .u64 a6), (.int .u64 a7), (.int .i64 a8), (.bool a9), (.int .u64 a10), (.sl 2 a11), (.bool a12), (.int .i64 a13), (.int .i64 a14)])])])]).length) * 56 ≤ 140737488355328)) (
                    Option.bind (some ((y9.2 ++ [(PD.agg [(.str a2), (.str a3), (.sl 11 [(PD.agg [(.nums .u8 a4), (.int .i64 a5), (.int .u64 a6), (.int .u64 a7), (.int .i64 a8), (.bool a9), (.int .u64 a10), (.sl 2 a11), (.bool a12), (.int .i64 a13), (.int .i64 a14)])])])]) : List PD)) fun y10 =>
                    some (((), 0), y10)) none) (
                  cond (inRange y2.1 (y9.2.length)) (
                    Option.bind (y9.2[(Int.toNat y2.1)]?) fun y11 =>
                    Option.bind (PD.slAt 11 y11 2) fun y12 =>
                    none) none)))) (
            cond (!y2.2) (
              cond (decide ((((a1.length) : Nat) : Int) ≥ 16)) (
                some (((), 12), [])) (
                Option.bind (account_clone a1) fun y13 =>
                cond (!y2.2) (
                  cond (decide (((y13.2 ++ [(PD.agg [(.str a2), (.str a3), (.sl 11 [(PD.agg [(.nums .u8 a4), (.int .i64 a5), (.int .u64 a6), (.int .u64 a7), (.int .i64 a8), (.bool a9), (.int .u64 a10), (.sl 2 a11), (.bool a12), (.int .i64 a13), (.int .i64 a14)])])])]).length) * 56 ≤ 140737488355328)) (
                    Option.bind (some ((y13.2 ++ [(PD.agg [(.str a2), (.str a3), (.sl 11 [(PD.agg [(.nums .u8 a4), (.int .i64 a5), (.int .u64 a6), (.int .u64 a7), (.int .i64 a8), (.bool a9), (.int .u64 a10), (.sl 2 a11), (.bool a12), (.int .i64 a13), (.int .i64 a14)])])])]) : List PD)) fun y14 =>
                    some (((), 0), y14)) none) (
                  cond (inRange y2.1 (y13.2.length)) (
                    Option.bind (y13.2[(Int.toNat y2.1)]?) fun y15 =>
                    Option.bind (PD.slAt 11 y15 2) fun y16 =>
                    none) none))) (
              Option.bind (account_clone a1) fun y17 =>
              cond (!y2.2) (
                cond (decide (((y17.2 ++ [(PD.agg [(.str a2), (.str a3), (.sl 11 [(PD.agg [(.nums .u8 a4), (.int .i64 a5), (.int .u64 a6), (.int .u64 a7), (.int .i64 a8), (.bool a9), (.int .u64 a10), (.sl 2 a11), (.bool a12), (.int .i64 a13), (.int .i64 a14)])])])]).length) * 56 ≤ 140737488355328)) (
                  Option.bind (some ((y17.2 ++ [(PD.agg [(.str a2), (.str a3), (.sl 11 [(PD.agg [(.nums .u8 a4), (.int .i64 a5), (.int .u64 a6), (.int .u64 a7), (.int .i64 a8), (.bool a9), (.int .u64 a10), (.sl 2 a11), (.bool a12), (.int .i64 a13), (.int .i64 a14)])])])]) : List PD)) fun y18 =>
                  some (((), 0), y18)) none) (
                cond (inRange y2.1 (y17.2.length)) (
                  Option.bind (y17.2[(Int.toNat y2.1)]?) fun y19 =>
                  Option.bind (PD.slAt 11 y19 2) fun y20 =>
                  none) none)))))))

/-! slices_Clone_Lbyte_byte: slices.Clone[[]byte,byte] -/
noncomputable def slices_Clone_Lbyte_byte (a1 : List Int) : Option (Unit × List Int) :=
  cond (List.isEmpty a1) (
    ambO (
      some ((), [])) (
      cond (decide ((([] ++ a1).length) * 1 ≤ 140737488355328)) (
        some ((), ([] ++ a1))) none)) (
    cond (decide ((([] ++ a1).length) * 1 ≤ 140737488355328)) (
      some ((), ([] ++ a1))) none)

/-! digest_little: passkey/digest.little -/
noncomputable def digest_little_l3 : (Int × List Int × Int × Int) → Option ((Int × List Int × Int × Int) ⊕ Int) := fun s => match s with
  | (a1, a2, a3, a4) =>
    cond (decide (a4 < a3)) (
      Option.bind (getI a2 a4) fun y1 =>
      cond (decide (0 ≤ (IntKind.i64.wrap (8 * a4)))) (
        Option.bind (some ((shlI .u64 (IntKind.u64.wrap y1) (IntKind.i64.wrap (8 * a4))) : Int)) fun y2 =>
        some (.inl ((bitsI .or .u64 a1 y2), a2, a3, (IntKind.i64.wrap (a4 + 1))))) none) (
      some (.inr a1))
noncomputable def digest_little (a1 : List Int) : Option Int :=
  Option.bind (loopFix digest_little_l3 (0, a1, (((a1.length) : Nat) : Int), 0)) fun y1 =>
  some y1

/-! bits_RotateLeft64: math/bits.RotateLeft64 -/
noncomputable def bits_RotateLeft64 (a1 : Int) (a2 : Int) : Option Int :=
  Option.bind (some ((bitsI .and .u64 (IntKind.u64.wrap a2) 63) : Int)) fun y1 =>
  cond (decide (0 ≤ y1)) (
    cond (decide (0 ≤ (IntKind.u64.wrap (64 - y1)))) (
      Option.bind (some ((shrI .u64 a1 (IntKind.u64.wrap (64 - y1))) : Int)) fun y2 =>
      some (bitsI .or .u64 (shlI .u64 a1 y1) y2)) none) none

/-! digest_state_round_a4e: (*passkey/digest.state).round -/
noncomputable def digest_state_round_a4e_l1 : ((Unit × Int × Int) × (Int × Int × Int × Int)) → Option (((Unit × Int × Int) × (Int × Int × Int × Int)) ⊕ (Unit × (Int × Int × Int × Int))) := fun s => match s with
  | (((), a1, a2), (a3, a4, a5, a6)) =>
    cond (decide (a2 < a1)) (
      Option.bind (bits_RotateLeft64 a4 13) fun y1 =>
      Option.bind (some ((bitsI .xor .u64 y1 (IntKind.u64.wrap (a3 + a4))) : Int)) fun y2 =>
      Option.bind (bits_RotateLeft64 (IntKind.u64.wrap (a3 + a4)) 32) fun y3 =>
      Option.bind (bits_RotateLeft64 a6 16) fun y4 =>
      Option.bind (some ((bitsI .xor .u64 y4 (IntKind.u64.wrap (a5 + a6))) : Int)) fun y5 =>
      Option.bind (bits_RotateLeft64 y5 21) fun y6 =>
      Option.bind (some ((bitsI .xor .u64 y6 (IntKind.u64.wrap (y3 + y5))) : Int)) fun y7 =>
      Option.bind (some ((IntKind.u64.wrap ((IntKind.u64.wrap (a5 + a6)) + y2)) : Int)) fun y8 =>
      Option.bind (bits_RotateLeft64 y2 17) fun y9 =>
      Option.bind (bits_RotateLeft64 y8 32) fun y10 =>
      some (.inl (((), a1, (IntKind.i64.wrap (a2 + 1))), ((IntKind.u64.wrap (y3 + y5)), (bitsI .xor .u64 y9 y8), y10, y7)))) (
      some (.inr ((), (a3, a4, a5, a6))))
noncomputable def digest_state_round_a4e (a1 : Int) (a2 : Int) (a3 : Int) (a4 : Int) (a5 : Int) : Option (Unit × (Int × Int × Int × Int)) :=
  Option.bind (loopFix digest_state_round_a4e_l1 (((), a1, 0), (a2, a3, a4, a5))) fun y1 =>
  some ((), (y1.2.1, y1.2.2.1, y1.2.2.2.1, y1.2.2.2.2))

/-! digest_state_word_a4e: (*passkey/digest.state).word -/
noncomputable def digest_state_word_a4e (a1 : Int) (a2 : Int) (a3 : Int) (a4 : Int) (a5 : Int) : Option (Unit × (Int × Int × Int × Int)) :=
  Option.bind (digest_state_round_a4e 2 a2 a3 a4 (bitsI .xor .u64 a5 a1)) fun y1 =>
  some ((), ((bitsI .xor .u64 y1.2.1 a1), y1.2.2.1, y1.2.2.2.1, y1.2.2.2.2))

/-! digest_Sum: passkey/digest.Sum -/
noncomputable def digest_Sum_l3 : ((List Int × Unit × Int) × (Int × Int × Int × Int)) → Option (((List Int × Unit × Int) × (Int × Int × Int × Int)) ⊕ ((List Int × Unit × Int) × (Int × Int × Int × Int))) := fun s => match s with
  | ((a1, (), a2), (a3, a4, a5, a6)) =>
    cond (decide ((((a1.length) : Nat) : Int) ≥ 8)) (
      cond ((okBounds 0 8 (a1.length)) && ((decide (8 ≤ (((a1.length) : Nat) : Int))) && (decide ((((a1.length) : Nat) : Int) ≤ (((a1.length) : Nat) : Int))))) (
        Option.bind (digest_little (cut a1 0 8)) fun y1 =>
        Option.bind (digest_state_word_a4e y1 a3 a4 a5 a6) fun y2 =>
        cond ((okBounds 8 (((a1.length) : Nat) : Int) (a1.length)) && ((decide ((((a1.length) : Nat) : Int) ≤ (((a1.length) : Nat) : Int))) && (decide ((((a1.length) : Nat) : Int) ≤ (((a1.length) : Nat) : Int))))) (
          some (.inl (((cut a1 8 (((a1.length) : Nat) : Int)), (), a2), (y2.2.1, y2.2.2.1, y2.2.2.2.1, y2.2.2.2.2)))) none) none) (
      some (.inr ((a1, (), a2), (a3, a4, a5, a6))))
noncomputable def digest_Sum (a1 : Int) (a2 : Int) (a3 : List Int) : Option Int :=
  Option.bind (some ((IntKind.u64.wrap (((a3.length) : Nat) : Int)) : Int)) fun y1 =>
  Option.bind (loopFix digest_Sum_l3 ((a3, (), (shlI .u64 y1 56)), ((bitsI .xor .u64 a1 8317987319222330741), (bitsI .xor .u64 a2 7237128888997146477), (bitsI .xor .u64 a1 7816392313619706465), (bitsI .xor .u64 a2 8387220255154660723)))) fun y2 =>
  Option.bind (digest_little y2.1.1) fun y3 =>
  Option.bind (digest_state_word_a4e (bitsI .or .u64 y2.1.2.2 y3) y2.2.1 y2.2.2.1 y2.2.2.2.1 y2.2.2.2.2) fun y4 =>
  Option.bind (digest_state_round_a4e 4 y4.2.1 y4.2.2.1 (bitsI .xor .u64 y4.2.2.2.1 255) y4.2.2.2.2) fun y5 =>
  Option.bind (some ((bitsI .xor .u64 (bitsI .xor .u64 y5.2.1 y5.2.2.1) y5.2.2.2.1) : Int)) fun y6 =>
  some (bitsI .xor .u64 y6 y5.2.2.2.2)

/-! digest_Mac: passkey/digest.Mac -/
noncomputable def digest_Mac (a1 : Int) (a2 : Int) (a3 : List Int) : Option Int :=
  Option.bind (some ((IntKind.u64.wrap (1 + (IntKind.u64.wrap a2))) : Int)) fun y1 =>
  Option.bind (digest_Sum a1 y1 a3) fun y2 =>
  some y2

/-! digest_Words: passkey/digest.Words -/
noncomputable def digest_Words_l6 : ((Unit × Int × List Int × Int × Int × Int) × List Int) → Option (((Unit × Int × List Int × Int × Int × Int) × List Int) ⊕ ((Unit × List Int × Int × Int) × List Int)) := fun s => match s with
  | (((), a1, a2, a3, a4, a5), a6) =>
    cond (decide (a5 < 8)) (
      Option.bind (some ((IntKind.i64.wrap (56 - (IntKind.i64.wrap (8 * a5)))) : Int)) fun y1 =>
      cond (decide (0 ≤ y1)) (
        cond (decide (((a6 ++ [(IntKind.u8.wrap (shrI .u64 a1 y1))]).length) * 1 ≤ 140737488355328)) (
          Option.bind (some ((a6 ++ [(IntKind.u8.wrap (shrI .u64 a1 y1))]) : List Int)) fun y2 =>
          some (.inl (((), a1, a2, a3, a4, (IntKind.i64.wrap (a5 + 1))), y2))) none) none) (
      some (.inr (((), a2, a3, a4), a6)))
noncomputable def digest_Words_l3 : ((Unit × List Int × Int × Int) × List Int) → Option (((Unit × List Int × Int × Int) × List Int) ⊕ (Unit × List Int)) := fun s => match s with
  | (((), a1, a2, a3), a4) =>
    cond (decide (a3 < a2)) (
      Option.bind (getI a1 a3) fun y1 =>
      Option.bind (loopFix digest_Words_l6 (((), y1, a1, a2, a3, 0), a4)) fun y2 =>
      some (.inl (((), y2.1.2.1, y2.1.2.2.1, (IntKind.i64.wrap (y2.1.2.2.2 + 1))), y2.2))) (
      some (.inr ((), a4)))
noncomputable def digest_Words (a1 : List Int) : Option (Unit × List Int) :=
  Option.bind (loopFix digest_Words_l3 (((), a1, (((a1.length) : Nat) : Int), 0), [])) fun y1 =>
  some ((), y1.2)

/-! seal_Stream: passkey/seal.Stream -/
noncomputable def seal_Stream_l4 : ((Int × Int × Int × Unit × Int) × List Int) → Option (((Int × Int × Int × Unit × Int) × List Int) ⊕ ((Int × Unit) × List Int)) := fun s => match s with
  | ((a1, a2, a3, (), a4), a5) =>
    cond (decide ((((a5.length) : Nat) : Int) < a3)) (
      Option.bind (digest_Words [a2, a4]) fun y1 =>
      Option.bind (digest_Mac a1 5 y1.2) fun y2 =>
      Option.bind (digest_Words [y2]) fun y3 =>
      cond (decide (((a5 ++ y3.2).length) * 1 ≤ 140737488355328)) (
        some (.inl ((a1, a2, a3, (), (IntKind.u64.wrap (a4 + 1))), (a5 ++ y3.2)))) none) (
      some (.inr ((a3, ()), a5)))
noncomputable def seal_Stream (a1 : Int) (a2 : Int) (a3 : Int) : Option (Unit × List Int) :=
  Option.bind (some ((if (if 1024 < a3 then 1024 else a3) > 0 then (if 1024 < a3 then 1024 else a3) else 0) : Int)) fun y1 =>
  Option.bind (loopFix seal_Stream_l4 ((a1, a2, y1, (), 0), [])) fun y2 =>
  cond (okBounds 0 y2.1.1 (y2.2.length)) (
    some ((), (cut y2.2 0 y2.1.1))) none

/-! bits_Len64: math/bits.Len64 -/
noncomputable def bits_Len64_j10 : (Int × Int) → Option Int := fun s => match s with
  | (a1, a2) =>
    Option.bind (strI (bs [0, 1, 2, 2, 3, 3, 3, 3, 4, 4, 4, 4, 4, 4, 4, 4, 5, 5, 5, 5, 5, 5, 5, 5, 5, 5, 5, 5, 5, 5, 5, 5, 6, 6, 6, 6, 6, 6, 6, 6, 6, 6, 6, 6, 6, 6, 6, 6, 6, 6, 6, 6, 6, 6, 6, 6, 6, 6, 6, 6, 6, 6, 6, 6, 7, 7, 7, 7, 7, 7, 7, 7, 7, 7, 7, 7, 7, 7, 7, 7, 7, 7, 7, 7, 7, 7, 7, 7, 7, 7, 7, 7, 7, 7, 7, 7, 7, 7, 7, 7, 7, 7, 7, 7, 7, 7, 7, 7, 7, 7, 7, 7, 7, 7, 7, 7, 7, 7, 7, 7, 7, 7, 7, 7, 7, 7, 7, 7, 8, 8, 8, 8, 8, 8, 8, 8, 8, 8, 8, 8, 8, 8, 8, 8, 8, 8, 8, 8, 8, 8, 8, 8, 8, 8, 8, 8, 8, 8, 8, 8, 8, 8, 8, 8, 8, 8, 8, 8, 8, 8, 8, 8, 8, 8, 8, 8, 8, 8, 8, 8, 8, 8, 8, 8, 8, 8, 8, 8, 8, 8, 8, 8, 8, 8, 8, 8, 8, 8, 8, 8, 8, 8, 8, 8, 8, 8, 8, 8, 8, 8, 8, 8, 8, 8, 8, 8, 8, 8, 8, 8, 8, 8, 8, 8, 8, 8, 8, 8, 8, 8, 8, 8, 8, 8, 8, 8, 8, 8, 8, 8, 8, 8, 8, 8, 8, 8, 8, 8, 8, 8, 8, 8, 8, 8, 8, 8]) (IntKind.u8.wrap a1)) fun y1 =>
    Option.bind (some ((IntKind.i64.wrap (a2 + (IntKind.i64.wrap y1))) : Int)) fun y2 =>
    some y2
noncomputable def bits_Len64_j7 : (Int × Int) → Option Int := fun s => match s with
  | (a1, a2) =>
    cond (decide (a1 ≥ 256)) (
      Option.bind (bits_Len64_j10 ((shrI .u64 a1 8), (IntKind.i64.wrap (a2 + 8)))) fun y1 =>
      some y1) (
      Option.bind (bits_Len64_j10 (a1, a2)) fun y2 =>
      some y2)
noncomputable def bits_Len64_j4 : (Int × Int) → Option Int := fun s => match s with
  | (a1, a2) =>
    cond (decide (a1 ≥ 65536)) (
      Option.bind (bits_Len64_j7 ((shrI .u64 a1 16), (IntKind.i64.wrap (a2 + 16)))) fun y1 =>
      some y1) (
      Option.bind (bits_Len64_j7 (a1, a2)) fun y2 =>
      some y2)
noncomputable def bits_Len64 (a1 : Int) : Option Int :=
  cond (decide (a1 ≥ 4294967296)) (
    Option.bind (bits_Len64_j4 ((shrI .u64 a1 32), 32)) fun y1 =>
    some y1) (
    Option.bind (bits_Len64_j4 (a1, 0)) fun y2 =>
    some y2)

/-! bits_Len: math/bits.Len -/
noncomputable def bits_Len (a1 : Int) : Option Int :=
  Option.bind (bits_Len64 a1) fun y1 =>
  some y1

/-! cmp_isNaN_byte: cmp.isNaN[byte] -/
noncomputable def cmp_isNaN_byte (a1 : Int) : Option Bool :=
  some (a1 != a1)

/-! cmp_Compare_byte: cmp.Compare[byte] -/
noncomputable def cmp_Compare_byte (a1 : Int) (a2 : Int) : Option Int :=
  Option.bind (cmp_isNaN_byte a1) fun y1 =>
  Option.bind (cmp_isNaN_byte a2) fun y2 =>
  cond y1 (
    cond y2 (
      some 0) (
      some (-1))) (
    cond y2 (
      some 1) (
      cond (decide (a1 < a2)) (
        some (-1)) (
        cond (decide (a1 > a2)) (
          some 1) (
          some 0))))

/-! slices_Compare_Lbyte_byte: slices.Compare[[]byte,byte] -/
noncomputable def slices_Compare_Lbyte_byte_l2 : (List Int × List Int × List Int × Int × Int) → Option ((List Int × List Int × List Int × Int × Int) ⊕ (Int ⊕ (List Int × List Int))) := fun s => match s with
  | (a1, a2, a3, a4, a5) =>
    cond (decide (a5 < a4)) (
      Option.bind (getI a3 a5) fun y1 =>
      cond (decide (a5 ≥ (((a2.length) : Nat) : Int))) (
        some (.inr (.inl 1))) (
        Option.bind (getI a2 a5) fun y2 =>
        Option.bind (cmp_Compare_byte y1 y2) fun y3 =>
        cond (y3 != 0) (
          some (.inr (.inl y3))) (
          some (.inl (a1, a2, a3, a4, (IntKind.i64.wrap (a5 + 1))))))) (
      some (.inr (.inr (a1, a2))))
noncomputable def slices_Compare_Lbyte_byte (a1 : List Int) (a2 : List Int) : Option Int :=
  Option.bind (loopFix slices_Compare_Lbyte_byte_l2 (a1, a2, a1, (((a1.length) : Nat) : Int), 0)) fun y1 =>
  match y1 with
  | (.inl y2) =>
    some y2
  | (.inr y3) =>
    cond (decide ((((y3.1.length) : Nat) : Int) < (((y3.2.length) : Nat) : Int))) (
      some (-1)) (
      some 0)

/-! slices_insertionSortCmpFunc_Lbyte_1de: slices.insertionSortCmpFunc[[]byte] -/
noncomputable def slices_insertionSortCmpFunc_Lbyte_1de_l4 : ((Unit × Int × Int × (Unit × Unit) × Int × Int) × List PD) → Option (((Unit × Int × Int × (Unit × Unit) × Int × Int) × List PD) ⊕ ((Unit × Int × Int × (Unit × Unit) × Int) × List PD)) := fun s => match s with
  | (((), a1, a2, ((), ()), a3, a4), a5) =>
    cond (decide (a4 > a1)) (
      cond (inRange a4 (a5.length)) (
        Option.bind (a5[(Int.toNat a4)]?) fun y1 =>
        Option.bind (PD.numsAt .u8 y1 0) fun y2 =>
        cond (inRange (IntKind.i64.wrap (a4 - 1)) (a5.length)) (
          Option.bind (a5[(Int.toNat (IntKind.i64.wrap (a4 - 1)))]?) fun y3 =>
          Option.bind (PD.numsAt .u8 y3 0) fun y4 =>
          Option.bind (slices_Compare_Lbyte_byte y2 y4) fun y5 =>
          cond (decide (y5 < 0)) (
            cond (inRange (IntKind.i64.wrap (a4 - 1)) (a5.length)) (
              Option.bind (a5[(Int.toNat (IntKind.i64.wrap (a4 - 1)))]?) fun y6 =>
              Option.bind (PD.numsAt .u8 y6 0) fun y7 =>
              cond (inRange a4 (a5.length)) (
                Option.bind (a5[(Int.toNat a4)]?) fun y8 =>
                Option.bind (PD.numsAt .u8 y8 0) fun y9 =>
                cond (inRange a4 (a5.length)) (
                  cond (decide ((Int.toNat a4) < (a5.length))) (
                    cond (inRange (IntKind.i64.wrap (a4 - 1)) ((a5.set (Int.toNat a4) (.nums .u8 y7)).length)) (
                      cond (decide ((Int.toNat (IntKind.i64.wrap (a4 - 1))) < ((a5.set (Int.toNat a4) (.nums .u8 y7)).length))) (
                        Option.bind (some (((a5.set (Int.toNat a4) (.nums .u8 y7)).set (Int.toNat (IntKind.i64.wrap (a4 - 1))) (.nums .u8 y9)) : List PD)) fun y10 =>
                        some (.inl (((), a1, a2, ((), ()), a3, (IntKind.i64.wrap (a4 - 1))), y10))) none) none) none) none) none) none) (
            some (.inr (((), a1, a2, ((), ()), a3), a5)))) none) none) (
      some (.inr (((), a1, a2, ((), ()), a3), a5)))
noncomputable def slices_insertionSortCmpFunc_Lbyte_1de_l1 : ((Unit × Int × Int × (Unit × Unit) × Int) × List PD) → Option (((Unit × Int × Int × (Unit × Unit) × Int) × List PD) ⊕ (Unit × List PD)) := fun s => match s with
  | (((), a1, a2, ((), ()), a3), a4) =>
    cond (decide (a3 < a2)) (
      Option.bind (loopFix slices_insertionSortCmpFunc_Lbyte_1de_l4 (((), a1, a2, ((), ()), a3, a3), a4)) fun y1 =>
      some (.inl (((), y1.1.2.1, y1.1.2.2.1, ((), ()), (IntKind.i64.wrap (y1.1.2.2.2.2 + 1))), y1.2))) (
      some (.inr ((), a4)))
noncomputable def slices_insertionSortCmpFunc_Lbyte_1de (a1 : Int) (a2 : Int) (a3 : List PD) : Option (Unit × List PD) :=
  Option.bind (loopFix slices_insertionSortCmpFunc_Lbyte_1de_l1 (((), a1, a2, ((), ()), (IntKind.i64.wrap (a1 + 1))), a3)) fun y1 =>
  some ((), y1.2)

/-! slices_pdqsortCmpFunc_Lbyte_71e: slices.pdqsortCmpFunc[[]byte] -/
noncomputable def slices_pdqsortCmpFunc_Lbyte_71e_l2 : ((Unit × Int × Int × Int × (Unit × Unit) × Bool × Bool) × List PD) → Option (((Unit × Int × Int × Int × (Unit × Unit) × Bool × Bool) × List PD) ⊕ (Unit × List PD)) := fun s => match s with
  | (((), a1, a2, a3, ((), ()), a4, a5), a6) =>
    cond (decide ((IntKind.i64.wrap (a2 - a1)) ≤ 12)) (
      Option.bind (slices_insertionSortCmpFunc_Lbyte_1de a1 a2 a6) fun y1 =>
      some (.inr ((), y1.2))) (
      cond (a3 == 0) (
        none) (
        cond (!a4) (
          none) (
          none)))
noncomputable def slices_pdqsortCmpFunc_Lbyte_71e (a1 : Int) (a2 : Int) (a3 : Int) (a4 : List PD) : Option (Unit × List PD) :=
  Option.bind (loopFix slices_pdqsortCmpFunc_Lbyte_71e_l2 (((), a1, a2, a3, ((), ()), true, true), a4)) fun y1 =>
  some ((), y1.2)

/-! slices_SortFunc_LLbyte_Lbyte_e55: slices.SortFunc[[][]byte,[]byte] -/
noncomputable def slices_SortFunc_LLbyte_Lbyte_e55 (a1 : List PD) : Option (Unit × List PD) :=
  Option.bind (some ((IntKind.u64.wrap (((a1.length) : Nat) : Int)) : Int)) fun y1 =>
  Option.bind (bits_Len y1) fun y2 =>
  Option.bind (slices_pdqsortCmpFunc_Lbyte_71e 0 (((a1.length) : Nat) : Int) y2 a1) fun y3 =>
  some ((), y3.2)

/-! account_Allowed: passkey/account.Allowed -/
noncomputable def account_Allowed_j8B (a1 : Int) (a2 : ByteArray) (a3 : List PD) (a4 : Int) (a5 : Int) (a6 : List PD) (a7 : List Int) (a8 : Int) (a9 : Int) (a10 : Int) (a11 : Int) (a12 : Bool) (a13 : Int) (a14 : List PD) (a15 : Bool) (a16 : Int) (a17 : Int) : Option ((Int × ByteArray × Unit × List PD × Int × Int) × List PD) :=
  Option.bind (slices_Clone_Lbyte_byte a7) fun y1 =>
  cond (decide (((a6 ++ [(PD.nums .u8 y1.2)]).length) * 24 ≤ 140737488355328)) (
    some ((a1, a2, (), a3, a4, a5), (a6 ++ [(PD.nums .u8 y1.2)]))) none
noncomputable def account_Allowed_j8 : ((Int × ByteArray × Unit × Unit × List PD × Int × Int) × (List PD × (List Int × Int × Int × Int × Int × Bool × Int × List PD × Bool × Int × Int))) → Option ((Int × ByteArray × Unit × List PD × Int × Int) × List PD) := fun s => account_Allowed_j8B s.1.1 s.1.2.1 s.1.2.2.2.2.1 s.1.2.2.2.2.2.1 s.1.2.2.2.2.2.2 s.2.1 s.2.2.1 s.2.2.2.1 s.2.2.2.2.1 s.2.2.2.2.2.1 s.2.2.2.2.2.2.1 s.2.2.2.2.2.2.2.1 s.2.2.2.2.2.2.2.2.1 s.2.2.2.2.2.2.2.2.2.1 s.2.2.2.2.2.2.2.2.2.2.1 s.2.2.2.2.2.2.2.2.2.2.2.1 s.2.2.2.2.2.2.2.2.2.2.2.2
noncomputable def account_Allowed_l5 : ((Int × ByteArray × Unit × List PD × Int × Int) × List PD) → Option (((Int × ByteArray × Unit × List PD × Int × Int) × List PD) ⊕ ((Int × ByteArray × Unit) × List PD)) := fun s => match s with
  | ((a1, a2, (), a3, a4, a5), a6) =>
    cond (decide (a5 < a4)) (
      Option.bind (getI a3 a5) fun y1 =>
      Option.bind (PD.numsAt .u8 y1 0) fun y2 =>
      Option.bind (PD.intAt .i64 y1 1) fun y3 =>
      Option.bind (PD.intAt .u64 y1 2) fun y4 =>
      Option.bind (PD.intAt .u64 y1 3) fun y5 =>
      Option.bind (PD.intAt .i64 y1 4) fun y6 =>
      Option.bind (PD.boolAt y1 5) fun y7 =>
      Option.bind (PD.intAt .u64 y1 6) fun y8 =>
      Option.bind (PD.slAt 2 y1 7) fun y9 =>
      Option.bind (PD.boolAt y1 8) fun y10 =>
      Option.bind (PD.intAt .i64 y1 9) fun y11 =>
      Option.bind (PD.intAt .i64 y1 10) fun y12 =>
      cond (!y10) (
        cond (decide ((((a6.length) : Nat) : Int) < 4)) (
          Option.bind (account_Allowed_j8 ((a1, a2, (), (), a3, a4, a5), (a6, (y2, y3, y4, y5, y6, y7, y8, y9, y10, y11, y12)))) fun y13 =>
          some (.inl ((y13.1.1, y13.1.2.1, (), y13.1.2.2.2.1, y13.1.2.2.2.2.1, (IntKind.i64.wrap (y13.1.2.2.2.2.2 + 1))), y13.2))) (
          some (.inl ((a1, a2, (), a3, a4, (IntKind.i64.wrap (a5 + 1))), a6)))) (
        some (.inl ((a1, a2, (), a3, a4, (IntKind.i64.wrap (a5 + 1))), a6)))) (
      some (.inr ((a1, a2, ()), a6)))
noncomputable def account_Allowed_l12 : ((Unit × Int × Int) × List PD) → Option (((Unit × Int × Int) × List PD) ⊕ (Unit × List PD)) := fun s => match s with
  | (((), a1, a2), a3) =>
    cond (decide ((((a3.length) : Nat) : Int) < 4)) (
      Option.bind (seal_Stream a1 a2 176) fun y1 =>
      cond (decide (((a3 ++ [(PD.nums .u8 y1.2)]).length) * 24 ≤ 140737488355328)) (
        some (.inl (((), a1, (IntKind.u64.wrap (a2 + 1))), (a3 ++ [(PD.nums .u8 y1.2)])))) none) (
      some (.inr ((), a3)))
noncomputable def account_Allowed_j10 : ((Int × ByteArray × Unit) × List PD) → Option (Unit × List PD) := fun s => match s with
  | ((a1, a2, ()), a3) =>
    cond (decide ((a2.size) ≤ 140737488355328)) (
      Option.bind (digest_Mac a1 20 (bytesOf a2)) fun y1 =>
      Option.bind (loopFix account_Allowed_l12 (((), y1, 0), a3)) fun y2 =>
      Option.bind (slices_SortFunc_LLbyte_Lbyte_e55 y2.2) fun y3 =>
      some ((), y3.2)) none
noncomputable def account_Allowed (a1 : List PD) (a2 : Int) (a3 : ByteArray) : Option (Unit × List PD) :=
  Option.bind (account_Find a1 a3) fun y1 =>
  cond y1.2 (
    Option.bind (getI a1 y1.1) fun y2 =>
    Option.bind (PD.slAt 11 y2 2) fun y3 =>
    Option.bind (loopFix account_Allowed_l5 ((a2, a3, (), y3, (((y3.length) : Nat) : Int), 0), [])) fun y4 =>
    Option.bind (account_Allowed_j10 ((y4.1.1, y4.1.2.1, ()), y4.2)) fun y5 =>
    some ((), y5.2)) (
    Option.bind (account_Allowed_j10 ((a2, a3, ()), [])) fun y6 =>
    some ((), y6.2))

/-! law30_awake: passkey/passkeylaw30.awake -/
noncomputable def law30_awake : Option Bool :=
  Option.bind (law30_stored 1 2) fun y1 =>
  Option.bind (account_Accept y1.1 y1.2.1 y1.2.2.1 y1.2.2.2.1 y1.2.2.2.2.1 y1.2.2.2.2.2.1 y1.2.2.2.2.2.2.1 y1.2.2.2.2.2.2.2.1 y1.2.2.2.2.2.2.2.2.1 y1.2.2.2.2.2.2.2.2.2.1 y1.2.2.2.2.2.2.2.2.2.2 1 0 7) fun y2 =>
  Option.bind (account_Accept y2.1.1 y2.1.2.1 y2.1.2.2.1 y2.1.2.2.2.1 y2.1.2.2.2.2.1 y2.1.2.2.2.2.2.1 y2.1.2.2.2.2.2.2.1 y2.1.2.2.2.2.2.2.2.1 y2.1.2.2.2.2.2.2.2.2.1 y2.1.2.2.2.2.2.2.2.2.2.1 y2.1.2.2.2.2.2.2.2.2.2.2 3 2 8) fun y3 =>
  Option.bind (account_Accept y3.1.1 y3.1.2.1 y3.1.2.2.1 y3.1.2.2.2.1 y3.1.2.2.2.2.1 y3.1.2.2.2.2.2.1 y3.1.2.2.2.2.2.2.1 y3.1.2.2.2.2.2.2.2.1 y3.1.2.2.2.2.2.2.2.2.1 y3.1.2.2.2.2.2.2.2.2.2.1 y3.1.2.2.2.2.2.2.2.2.2.2 0 0 9) fun y4 =>
  Option.bind (account_Accept y3.1.1 y3.1.2.1 y3.1.2.2.1 y3.1.2.2.2.1 y3.1.2.2.2.2.1 y3.1.2.2.2.2.2.1 y3.1.2.2.2.2.2.2.1 y3.1.2.2.2.2.2.2.2.1 y3.1.2.2.2.2.2.2.2.2.1 y3.1.2.2.2.2.2.2.2.2.2.1 y3.1.2.2.2.2.2.2.2.2.2.2 3 2 9) fun y5 =>
  Option.bind (account_Enroll [] (bs [97, 108, 105, 99, 101]) (bs [117]) y3.1.1 y3.1.2.1 y3.1.2.2.1 y3.1.2.2.2.1 y3.1.2.2.2.2.1 y3.1.2.2.2.2.2.1 y3.1.2.2.2.2.2.2.1 y3.1.2.2.2.2.2.2.2.1 y3.1.2.2.2.2.2.2.2.2.1 y3.1.2.2.2.2.2.2.2.2.2.1 y3.1.2.2.2.2.2.2.2.2.2.2) fun y6 =>
  Option.bind (account_Find y6.2 (bs [97, 108, 105, 99, 101])) fun y7 =>
  cond (y2.2 == 0) (
    cond (y3.2 == 0) (
      cond (y4.2 == 37) (
        cond (y5.2 == 37) (
          cond (y6.1.2 == 0) (
            cond (!y4.1.2.2.2.2.2.2.2.2.1) (
              cond y5.1.2.2.2.2.2.2.2.2.1 (
                cond (y3.1.2.2.2.2.2.2.1 == 10) (
                  Option.bind (some ((((y3.1.2.2.2.2.2.2.2.1.length) : Nat) : Int) : Int)) fun y8 =>
                  cond (y8 == 2) (
                    cond y7.2 (
                      cond (y7.1 == 0) (
                        Option.bind (account_Allowed y6.2 1 (bs [98, 111, 98])) fun y9 =>
                        some ((((y9.2.length) : Nat) : Int) == 4)) (
                        some false)) (
                      some false)) (
                    some false)) (
                  some false)) (
                some false)) (
              some false)) (
            some false)) (
          some false)) (
        some false)) (
      some false)) (
    some false)

/-! strconv_small: internal/strconv.small -/
noncomputable def strconv_small (a1 : Int) : Option ByteArray :=
  cond (decide (a1 < 10)) (
    cond (okBounds a1 (IntKind.i64.wrap (a1 + 1)) 36) (
      Option.bind (some ((ByteArray.extract (bs [48, 49, 50, 51, 52, 53, 54, 55, 56, 57, 97, 98, 99, 100, 101, 102, 103, 104, 105, 106, 107, 108, 109, 110, 111, 112, 113, 114, 115, 116, 117, 118, 119, 120, 121, 122]) (Int.toNat a1) (Int.toNat (IntKind.i64.wrap (a1 + 1)))) : ByteArray)) fun y1 =>
      some y1) none) (
    Option.bind (some ((IntKind.i64.wrap ((IntKind.i64.wrap (a1 * 2)) + 2)) : Int)) fun y2 =>
    cond (okBounds (IntKind.i64.wrap (a1 * 2)) y2 200) (
      Option.bind (some ((ByteArray.extract (bs [48, 48, 48, 49, 48, 50, 48, 51, 48, 52, 48, 53, 48, 54, 48, 55, 48, 56, 48, 57, 49, 48, 49, 49, 49, 50, 49, 51, 49, 52, 49, 53, 49, 54, 49, 55, 49, 56, 49, 57, 50, 48, 50, 49, 50, 50, 50, 51, 50, 52, 50, 53, 50, 54, 50, 55, 50, 56, 50, 57, 51, 48, 51, 49, 51, 50, 51, 51, 51, 52, 51, 53, 51, 54, 51, 55, 51, 56, 51, 57, 52, 48, 52, 49, 52, 50, 52, 51, 52, 52, 52, 53, 52, 54, 52, 55, 52, 56, 52, 57, 53, 48, 53, 49, 53, 50, 53, 51, 53, 52, 53, 53, 53, 54, 53, 55, 53, 56, 53, 57, 54, 48, 54, 49, 54, 50, 54, 51, 54, 52, 54, 53, 54, 54, 54, 55, 54, 56, 54, 57, 55, 48, 55, 49, 55, 50, 55, 51, 55, 52, 55, 53, 55, 54, 55, 55, 55, 56, 55, 57, 56, 48, 56, 49, 56, 50, 56, 51, 56, 52, 56, 53, 56, 54, 56, 55, 56, 56, 56, 57, 57, 48, 57, 49, 57, 50, 57, 51, 57, 52, 57, 53, 57, 54, 57, 55, 57, 56, 57, 57]) (Int.toNat (IntKind.i64.wrap (a1 * 2))) (Int.toNat y2)) : ByteArray)) fun y3 =>
      some y3) none)

/-! strconv_log10Pow2: internal/strconv.log10Pow2 -/
noncomputable def strconv_log10Pow2 (a1 : Int) : Option Int :=
  Option.bind (some ((shrI .i64 (IntKind.i64.wrap (a1 * 78913)) 18) : Int)) fun y1 =>
  some y1

/-! strconv_bool2_int: internal/strconv.bool2[int] -/
noncomputable def strconv_bool2_int (a1 : Bool) : Option Int :=
  cond a1 (
    some 1) (
    some 0)

/-! strconv_numDigits: internal/strconv.numDigits -/
noncomputable def strconv_numDigits (a1 : Int) : Option Int :=
  Option.bind (bits_Len64 a1) fun y1 =>
  Option.bind (strconv_log10Pow2 y1) fun y2 =>
  cond (inRange y2 20) (
    Option.bind (tabPow10[(Int.toNat y2)]?) fun y3 =>
    Option.bind (strconv_bool2_int (decide (a1 ≥ y3))) fun y4 =>
    some (IntKind.i64.wrap (y2 + y4))) none

/-! strconv_isPowerOfTwo: internal/strconv.isPowerOfTwo -/
noncomputable def strconv_isPowerOfTwo (a1 : Int) : Option Bool :=
  Option.bind (some ((bitsI .and .i64 a1 (IntKind.i64.wrap (a1 - 1))) : Int)) fun y1 =>
  some (y1 == 0)

/-! bits_TrailingZeros64: math/bits.TrailingZeros64 -/
noncomputable def bits_TrailingZeros64 (a1 : Int) : Option Int :=
  cond (a1 == 0) (
    some 64) (
    Option.bind (some ((bitsI .and .u64 a1 (IntKind.u64.wrap (0 - a1))) : Int)) fun y1 =>
    Option.bind (some ((IntKind.u64.wrap (y1 * 285870213051353865)) : Int)) fun y2 =>
    cond (inRange (shrI .u64 y2 58) 64) (
      Option.bind (tabBruijn64[(Int.toNat (shrI .u64 y2 58))]?) fun y3 =>
      some (IntKind.i64.wrap y3)) none)

/-! bits_TrailingZeros: math/bits.TrailingZeros -/
noncomputable def bits_TrailingZeros (a1 : Int) : Option Int :=
  Option.bind (bits_TrailingZeros64 a1) fun y1 =>
  some y1

/-! strconv_formatBits: internal/strconv.formatBits -/
noncomputable def strconv_formatBits_l11 : ((List Int × Int × Bool × Bool × List Int × ByteArray × Unit × Int × Int × Int × Int) × List Int) → Option (((List Int × Int × Bool × Bool × List Int × ByteArray × Unit × Int × Int × Int × Int) × List Int) ⊕ ((List Int × Int × Bool × Bool × List Int × ByteArray × Unit × Int) × List Int)) := fun s => match s with
  | ((a1, a2, a3, a4, a5, a6, (), a7, a8, a9, a10), a11) =>
    cond (decide (a2 ≥ a9)) (
      Option.bind (strI (bs [48, 49, 50, 51, 52, 53, 54, 55, 56, 57, 97, 98, 99, 100, 101, 102, 103, 104, 105, 106, 107, 108, 109, 110, 111, 112, 113, 114, 115, 116, 117, 118, 119, 120, 121, 122]) (bitsI .and .u64 a2 a10)) fun y1 =>
      cond (inRange (IntKind.i64.wrap (a7 - 1)) 65) (
        cond (decide ((Int.toNat (IntKind.i64.wrap (a7 - 1))) < 65)) (
          Option.bind (some ((a11.set (Int.toNat (IntKind.i64.wrap (a7 - 1))) y1) : List Int)) fun y2 =>
          cond (decide (0 ≤ a8)) (
            some (.inl ((a1, (shrI .u64 a2 a8), a3, a4, a5, a6, (), (IntKind.i64.wrap (a7 - 1)), a8, a9, a10), y2))) none) none) none) (
      some (.inr ((a1, a2, a3, a4, a5, a6, (), a7), a11)))
noncomputable def strconv_formatBits_j28 : ((List Int × Bool × List Int × ByteArray × Unit × Int) × List Int) → Option (List Int × ByteArray) := fun s => match s with
  | ((a1, a2, a3, a4, (), a5), a6) =>
    cond a2 (
      cond (okBounds a5 65 65) (
        none) none) (
      cond (okBounds a5 65 65) (
        Option.bind (some ((strOf ((a6.take 65).drop (Int.toNat a5))) : ByteArray)) fun y1 =>
        some (a3, y1)) none)
noncomputable def strconv_formatBits_j25 : ((List Int × Bool × Bool × List Int × ByteArray × Unit × Int) × List Int) → Option (List Int × ByteArray) := fun s => match s with
  | ((a1, a2, a3, a4, a5, (), a6), a7) =>
    cond a2 (
      cond (inRange (IntKind.i64.wrap (a6 - 1)) 65) (
        cond (decide ((Int.toNat (IntKind.i64.wrap (a6 - 1))) < 65)) (
          Option.bind (some ((a7.set (Int.toNat (IntKind.i64.wrap (a6 - 1))) 45) : List Int)) fun y1 =>
          Option.bind (strconv_formatBits_j28 ((a1, a3, a4, a5, (), (IntKind.i64.wrap (a6 - 1))), y1)) fun y2 =>
          some (y2.1, y2.2)) none) none) (
      Option.bind (strconv_formatBits_j28 ((a1, a3, a4, a5, (), a6), a7)) fun y3 =>
      some (y3.1, y3.2))
noncomputable def strconv_formatBits_l18 : ((List Int × Int × Bool × Bool × List Int × ByteArray × Unit × Int × Int) × List Int) → Option (((List Int × Int × Bool × Bool × List Int × ByteArray × Unit × Int × Int) × List Int) ⊕ ((List Int × Int × Bool × Bool × List Int × ByteArray × Unit × Int) × List Int)) := fun s => match s with
  | ((a1, a2, a3, a4, a5, a6, (), a7, a8), a9) =>
    cond (decide (a2 ≥ a8)) (
      cond (a8 != 0) (
        Option.bind (some ((IntKind.u64.wrap ((IntKind.u64.wrap (Int.tdiv a2 a8)) * a8)) : Int)) fun y1 =>
        Option.bind (strI (bs [48, 49, 50, 51, 52, 53, 54, 55, 56, 57, 97, 98, 99, 100, 101, 102, 103, 104, 105, 106, 107, 108, 109, 110, 111, 112, 113, 114, 115, 116, 117, 118, 119, 120, 121, 122]) (IntKind.u64.wrap (a2 - y1))) fun y2 =>
        cond (inRange (IntKind.i64.wrap (a7 - 1)) 65) (
          cond (decide ((Int.toNat (IntKind.i64.wrap (a7 - 1))) < 65)) (
            Option.bind (some ((a9.set (Int.toNat (IntKind.i64.wrap (a7 - 1))) y2) : List Int)) fun y3 =>
            some (.inl ((a1, (IntKind.u64.wrap (Int.tdiv a2 a8)), a3, a4, a5, a6, (), (IntKind.i64.wrap (a7 - 1)), a8), y3))) none) none) none) (
      some (.inr ((a1, a2, a3, a4, a5, a6, (), a7), a9)))
noncomputable def strconv_formatBits_j7 : ((List Int × Int × Int × Bool × Bool × List Int × ByteArray × Unit × Int) × List Int) → Option (List Int × ByteArray) := fun s => match s with
  | ((a1, a2, a3, a4, a5, a6, a7, (), a8), a9) =>
    Option.bind (strconv_isPowerOfTwo a3) fun y1 =>
    cond y1 (
      Option.bind (bits_TrailingZeros (IntKind.u64.wrap a3)) fun y2 =>
      Option.bind (some ((IntKind.u64.wrap ((IntKind.u64.wrap a3) - 1)) : Int)) fun y3 =>
      Option.bind (loopFix strconv_formatBits_l11 ((a1, a2, a4, a5, a6, a7, (), a8, (IntKind.u64.wrap y2), (IntKind.u64.wrap a3), y3), a9)) fun y4 =>
      Option.bind (some ((IntKind.i64.wrap (y4.1.2.2.2.2.2.2.2 - 1)) : Int)) fun y5 =>
      Option.bind (strI (bs [48, 49, 50, 51, 52, 53, 54, 55, 56, 57, 97, 98, 99, 100, 101, 102, 103, 104, 105, 106, 107, 108, 109, 110, 111, 112, 113, 114, 115, 116, 117, 118, 119, 120, 121, 122]) y4.1.2.1) fun y6 =>
      cond (inRange y5 65) (
        cond (decide ((Int.toNat y5) < 65)) (
          Option.bind (strconv_formatBits_j25 ((y4.1.1, y4.1.2.2.1, y4.1.2.2.2.1, y4.1.2.2.2.2.1, y4.1.2.2.2.2.2.1, (), y5), (y4.2.set (Int.toNat y5) y6))) fun y7 =>
          some (y7.1, y7.2)) none) none) (
      Option.bind (loopFix strconv_formatBits_l18 ((a1, a2, a4, a5, a6, a7, (), a8, (IntKind.u64.wrap a3)), a9)) fun y8 =>
      Option.bind (some ((IntKind.i64.wrap (y8.1.2.2.2.2.2.2.2 - 1)) : Int)) fun y9 =>
      Option.bind (strI (bs [48, 49, 50, 51, 52, 53, 54, 55, 56, 57, 97, 98, 99, 100, 101, 102, 103, 104, 105, 106, 107, 108, 109, 110, 111, 112, 113, 114, 115, 116, 117, 118, 119, 120, 121, 122]) y8.1.2.1) fun y10 =>
      cond (inRange y9 65) (
        cond (decide ((Int.toNat y9) < 65)) (
          Option.bind (strconv_formatBits_j25 ((y8.1.1, y8.1.2.2.1, y8.1.2.2.2.1, y8.1.2.2.2.2.1, y8.1.2.2.2.2.2.1, (), y9), (y8.2.set (Int.toNat y9) y10))) fun y11 =>
          some (y11.1, y11.2)) none) none)
noncomputable def strconv_formatBits_j3 : (List Int × Int × Int × Bool × Bool × List Int × ByteArray) → Option (List Int × ByteArray) := fun s => match s with
  | (a1, a2, a3, a4, a5, a6, a7) =>
    cond a4 (
      Option.bind (strconv_formatBits_j7 ((a1, (IntKind.u64.wrap (0 - a2)), a3, a4, a5, a6, a7, (), 65), (List.replicate 65 0))) fun y1 =>
      some (y1.1, y1.2)) (
      Option.bind (strconv_formatBits_j7 ((a1, a2, a3, a4, a5, a6, a7, (), 65), (List.replicate 65 0))) fun y2 =>
      some (y2.1, y2.2))
noncomputable def strconv_formatBits (a1 : List Int) (a2 : Int) (a3 : Int) (a4 : Bool) (a5 : Bool) : Option (List Int × ByteArray) :=
  cond (decide (a3 < 2)) (
    none) (
    cond (a3 == 10) (
      none) (
      cond (decide (a3 > 36)) (
        none) (
        Option.bind (strconv_formatBits_j3 (a1, a2, a3, a4, a5, [], (bs []))) fun y1 =>
        some (y1.1, y1.2))))

/-! strconv_FormatUintx: internal/strconv.FormatUint -/
noncomputable def strconv_FormatUintx (a1 : Int) (a2 : Int) : Option ByteArray :=
  cond (a2 == 10) (
    cond (decide (a1 < 100)) (
      Option.bind (strconv_small (IntKind.i64.wrap a1)) fun y1 =>
      some y1) (
      Option.bind (strconv_numDigits a1) fun y2 =>
      cond (okBounds 0 y2 24) (
        cond (decide ((Int.toNat y2) ≤ 24)) (
          none) none) none)) (
    Option.bind (strconv_formatBits [] a1 a2 false false) fun y3 =>
    some y3.2)

/-! strconv_FormatUint: strconv.FormatUint -/
noncomputable def strconv_FormatUint (a1 : Int) (a2 : Int) : Option ByteArray :=
  Option.bind (strconv_FormatUintx a1 a2) fun y1 =>
  some y1

/-! account_User: passkey/account.User -/
noncomputable def account_User (a1 : Int) (a2 : ByteArray) : Option ByteArray :=
  cond (decide ((a2.size) ≤ 140737488355328)) (
    Option.bind (digest_Mac a1 19 (bytesOf a2)) fun y1 =>
    Option.bind (strconv_FormatUint y1 16) fun y2 =>
    Option.bind (some ((IntKind.i64.wrap (16 - (((y2.size) : Nat) : Int))) : Int)) fun y3 =>
    Option.bind (strings_Repeat (bs [48]) y3) fun y4 =>
    cond (decide ((((y4.size) + (y2.size) : Nat) : Int) ≤ 9223372036854775807)) (
      some (y4 ++ y2)) none) none

/-! ref29_User: passkey/passkeyref29.User -/
noncomputable def ref29_User_l4 : (Int × ByteArray × Int) → Option ((Int × ByteArray × Int) ⊕ ByteArray) := fun s => match s with
  | (a1, a2, a3) =>
    cond (decide (a3 ≥ 0)) (
      cond (decide (0 ≤ (IntKind.u64.wrap a3))) (
        Option.bind (some ((bitsI .and .u64 (shrI .u64 a1 (IntKind.u64.wrap a3)) 15) : Int)) fun y1 =>
        cond (okBounds y1 (IntKind.u64.wrap (y1 + 1)) 16) (
          Option.bind (some ((ByteArray.extract (bs [48, 49, 50, 51, 52, 53, 54, 55, 56, 57, 97, 98, 99, 100, 101, 102]) (Int.toNat y1) (Int.toNat (IntKind.u64.wrap (y1 + 1)))) : ByteArray)) fun y2 =>
          cond (decide ((((a2.size) + (y2.size) : Nat) : Int) ≤ 9223372036854775807)) (
            some (.inl (a1, (a2 ++ y2), (IntKind.i64.wrap (a3 - 4))))) none) none) none) (
      some (.inr a2))
noncomputable def ref29_User (a1 : Int) (a2 : ByteArray) : Option ByteArray :=
  cond (decide ((a2.size) ≤ 140737488355328)) (
    Option.bind (ref1_Mac a1 19 (bytesOf a2)) fun y1 =>
    Option.bind (loopFix ref29_User_l4 (y1, (bs []), 60)) fun y2 =>
    some y2) none

/-! ref29_FindAccount: passkey/passkeyref29.FindAccount -/
noncomputable def ref29_FindAccount_l2 : (List PD × ByteArray × Int) → Option ((List PD × ByteArray × Int) ⊕ ((Int × Bool) ⊕ Unit)) := fun s => match s with
  | (a1, a2, a3) =>
    cond (decide (a3 < (((a1.length) : Nat) : Int))) (
      Option.bind (getI a1 a3) fun y1 =>
      Option.bind (PD.strAt y1 0) fun y2 =>
      cond (strEq y2 a2) (
        some (.inr (.inl (a3, true)))) (
        some (.inl (a1, a2, (IntKind.i64.wrap (a3 + 1)))))) (
      some (.inr (.inr ())))
noncomputable def ref29_FindAccount (a1 : List PD) (a2 : ByteArray) : Option (Int × Bool) :=
  Option.bind (loopFix ref29_FindAccount_l2 (a1, a2, 0)) fun y1 =>
  match y1 with
  | (.inl y2) =>
    some (y2.1, y2.2)
  | (.inr y3) =>
    some (0, false)

/-! ref29_insert: passkey/passkeyref29.insert -/
noncomputable def ref29_insert_l2 : (List PD × ByteArray × Int) → Option ((List PD × ByteArray × Int) ⊕ (List PD × ByteArray × Int)) := fun s => match s with
  | (a1, a2, a3) =>
    cond (decide (a3 < (((a1.length) : Nat) : Int))) (
      Option.bind (getI a1 a3) fun y1 =>
      Option.bind (PD.strAt y1 0) fun y2 =>
      cond ((strLt y2 a2) || (strEq y2 a2)) (
        some (.inl (a1, a2, (IntKind.i64.wrap (a3 + 1))))) (
        some (.inr (a1, a2, a3)))) (
      some (.inr (a1, a2, a3)))
noncomputable def ref29_insert (a1 : List PD) (a2 : ByteArray) : Option (Unit × List PD) :=
  Option.bind (loopFix ref29_insert_l2 (a1, a2, 0)) fun y1 =>
  cond ((okBounds 0 y1.2.2 (y1.1.length)) && ((decide (y1.2.2 ≤ (((y1.1.length) : Nat) : Int))) && (decide ((((y1.1.length) : Nat) : Int) ≤ (((y1.1.length) : Nat) : Int))))) (
    cond (decide (((cut y1.1 0 y1.2.2).length) * 16 ≤ 140737488355328)) (
      cond (decide ((((cut y1.1 0 y1.2.2) ++ [(PD.str y1.2.1)]).length) * 16 ≤ 140737488355328)) (
        Option.bind (some (((cut y1.1 0 y1.2.2) ++ [(PD.str y1.2.1)]) : List PD)) fun y2 =>
        cond ((okBounds y1.2.2 (((y1.1.length) : Nat) : Int) (y1.1.length)) && ((decide ((((y1.1.length) : Nat) : Int) ≤ (((y1.1.length) : Nat) : Int))) && (decide ((((y1.1.length) : Nat) : Int) ≤ (((y1.1.length) : Nat) : Int))))) (
          Option.bind (some ((cut y1.1 y1.2.2 (((y1.1.length) : Nat) : Int)) : List PD)) fun y3 =>
          cond (decide (((y2 ++ y3).length) * 16 ≤ 140737488355328)) (
            some ((), (y2 ++ y3))) none) none) none) none) none

/-! ref29_Allowed: passkey/passkeyref29.Allowed -/
noncomputable def ref29_Allowed_j9B (a1 : List PD) (a2 : Int) (a3 : ByteArray) (a4 : Int) (a5 : Int) (a6 : List PD) (a7 : List Int) (a8 : Int) (a9 : Int) (a10 : Int) (a11 : Int) (a12 : Bool) (a13 : Int) (a14 : List PD) (a15 : Bool) (a16 : Int) (a17 : Int) : Option ((List PD × Int × ByteArray × Unit × Int × Int) × List PD) :=
  Option.bind (ref29_insert a6 (strOf a7)) fun y1 =>
  some ((a1, a2, a3, (), a4, a5), y1.2)
noncomputable def ref29_Allowed_j9 : ((List PD × Int × ByteArray × Unit × Int × Int × Unit) × (List PD × (List Int × Int × Int × Int × Int × Bool × Int × List PD × Bool × Int × Int))) → Option ((List PD × Int × ByteArray × Unit × Int × Int) × List PD) := fun s => ref29_Allowed_j9B s.1.1 s.1.2.1 s.1.2.2.1 s.1.2.2.2.2.1 s.1.2.2.2.2.2.1 s.2.1 s.2.2.1 s.2.2.2.1 s.2.2.2.2.1 s.2.2.2.2.2.1 s.2.2.2.2.2.2.1 s.2.2.2.2.2.2.2.1 s.2.2.2.2.2.2.2.2.1 s.2.2.2.2.2.2.2.2.2.1 s.2.2.2.2.2.2.2.2.2.2.1 s.2.2.2.2.2.2.2.2.2.2.2.1 s.2.2.2.2.2.2.2.2.2.2.2.2
noncomputable def ref29_Allowed_l5 : ((List PD × Int × ByteArray × Unit × Int × Int) × List PD) → Option (((List PD × Int × ByteArray × Unit × Int × Int) × List PD) ⊕ ((Int × ByteArray × Unit) × List PD)) := fun s => match s with
  | ((a1, a2, a3, (), a4, a5), a6) =>
    Option.bind (getI a1 a4) fun y1 =>
    Option.bind (PD.slAt 11 y1 2) fun y2 =>
    cond (decide (a5 < (((y2.length) : Nat) : Int))) (
      Option.bind (getI a1 a4) fun y3 =>
      Option.bind (PD.slAt 11 y3 2) fun y4 =>
      Option.bind (getI y4 a5) fun y5 =>
      Option.bind (PD.numsAt .u8 y5 0) fun y6 =>
      Option.bind (PD.intAt .i64 y5 1) fun y7 =>
      Option.bind (PD.intAt .u64 y5 2) fun y8 =>
      Option.bind (PD.intAt .u64 y5 3) fun y9 =>
      Option.bind (PD.intAt .i64 y5 4) fun y10 =>
      Option.bind (PD.boolAt y5 5) fun y11 =>
      Option.bind (PD.intAt .u64 y5 6) fun y12 =>
      Option.bind (PD.slAt 2 y5 7) fun y13 =>
      Option.bind (PD.boolAt y5 8) fun y14 =>
      Option.bind (PD.intAt .i64 y5 9) fun y15 =>
      Option.bind (PD.intAt .i64 y5 10) fun y16 =>
      cond (!y14) (
        cond (decide ((((a6.length) : Nat) : Int) < 4)) (
          Option.bind (ref29_Allowed_j9 ((a1, a2, a3, (), a4, a5, ()), (a6, (y6, y7, y8, y9, y10, y11, y12, y13, y14, y15, y16)))) fun y17 =>
          some (.inl ((y17.1.1, y17.1.2.1, y17.1.2.2.1, (), y17.1.2.2.2.2.1, (IntKind.i64.wrap (y17.1.2.2.2.2.2 + 1))), y17.2))) (
          some (.inl ((a1, a2, a3, (), a4, (IntKind.i64.wrap (a5 + 1))), a6)))) (
        some (.inl ((a1, a2, a3, (), a4, (IntKind.i64.wrap (a5 + 1))), a6)))) (
      some (.inr ((a2, a3, ()), a6)))
noncomputable def ref29_Allowed_l12 : ((Unit × Int × Int) × List PD) → Option (((Unit × Int × Int) × List PD) ⊕ (Unit × List PD)) := fun s => match s with
  | (((), a1, a2), a3) =>
    cond (decide ((((a3.length) : Nat) : Int) < 4)) (
      Option.bind (ref3_Stream a1 a2 176) fun y1 =>
      Option.bind (ref29_insert a3 (strOf y1.2)) fun y2 =>
      some (.inl (((), a1, (IntKind.u64.wrap (a2 + 1))), y2.2))) (
      some (.inr ((), a3)))
noncomputable def ref29_Allowed_l17 : ((Unit × Unit × Int) × (List PD × List PD)) → Option (((Unit × Unit × Int) × (List PD × List PD)) ⊕ (Unit × List PD)) := fun s => match s with
  | (((), (), a1), (a2, a3)) =>
    cond (decide (a1 < (((a2.length) : Nat) : Int))) (
      cond (inRange a1 (a2.length)) (
        Option.bind (a2[(Int.toNat a1)]?) fun y1 =>
        Option.bind (PD.strAt y1 0) fun y2 =>
        cond (decide ((y2.size) ≤ 140737488355328)) (
          cond (decide (((a3 ++ [(PD.nums .u8 (bytesOf y2))]).length) * 24 ≤ 140737488355328)) (
            some (.inl (((), (), (IntKind.i64.wrap (a1 + 1))), (a2, (a3 ++ [(PD.nums .u8 (bytesOf y2))]))))) none) none) none) (
      some (.inr ((), a3)))
noncomputable def ref29_Allowed_j10 : ((Int × ByteArray × Unit) × List PD) → Option (Unit × List PD) := fun s => match s with
  | ((a1, a2, ()), a3) =>
    cond (decide ((a2.size) ≤ 140737488355328)) (
      Option.bind (ref1_Mac a1 20 (bytesOf a2)) fun y1 =>
      Option.bind (loopFix ref29_Allowed_l12 (((), y1, 0), a3)) fun y2 =>
      Option.bind (loopFix ref29_Allowed_l17 (((), (), 0), (y2.2, []))) fun y3 =>
      some ((), y3.2)) none
noncomputable def ref29_Allowed (a1 : List PD) (a2 : Int) (a3 : ByteArray) : Option (Unit × List PD) :=
  Option.bind (ref29_FindAccount a1 a3) fun y1 =>
  cond y1.2 (
    Option.bind (loopFix ref29_Allowed_l5 ((a1, a2, a3, (), y1.1, 0), [])) fun y2 =>
    Option.bind (ref29_Allowed_j10 ((y2.1.1, y2.1.2.1, ()), y2.2)) fun y3 =>
    some ((), y3.2)) (
    Option.bind (ref29_Allowed_j10 ((a2, a3, ()), [])) fun y4 =>
    some ((), y4.2))

/-! ref29_SameList: passkey/passkeyref29.SameList -/
noncomputable def ref29_SameList_l4 : (List PD × List PD × Int) → Option ((List PD × List PD × Int) ⊕ (Bool ⊕ Unit)) := fun s => match s with
  | (a1, a2, a3) =>
    cond (decide (a3 < (((a1.length) : Nat) : Int))) (
      Option.bind (getI a1 a3) fun y1 =>
      Option.bind (PD.numsAt .u8 y1 0) fun y2 =>
      Option.bind (getI a2 a3) fun y3 =>
      Option.bind (PD.numsAt .u8 y3 0) fun y4 =>
      cond (!(strEq (strOf y2) (strOf y4))) (
        some (.inr (.inl false))) (
        some (.inl (a1, a2, (IntKind.i64.wrap (a3 + 1)))))) (
      some (.inr (.inr ())))
noncomputable def ref29_SameList (a1 : List PD) (a2 : List PD) : Option Bool :=
  cond ((((a1.length) : Nat) : Int) != (((a2.length) : Nat) : Int)) (
    some false) (
    Option.bind (loopFix ref29_SameList_l4 (a1, a2, 0)) fun y1 =>
    match y1 with
    | (.inl y2) =>
      some y2
    | (.inr y3) =>
      some true)

/-! law30_AccountNames: passkey/passkeylaw30.AccountNames -/
noncomputable def law30_AccountNames (a1 : Int) (a2 : ByteArray) : Option Bool :=
  cond (decide ((((a2.size) : Nat) : Int) > 200)) (
    Option.bind law30_awake fun y1 =>
    some y1) (
    Option.bind (account_User a1 a2) fun y2 =>
    Option.bind (ref29_User a1 a2) fun y3 =>
    cond (strEq y2 y3) (
      cond ((((y2.size) : Nat) : Int) == 16) (
        Option.bind (account_Allowed [] a1 a2) fun y4 =>
        Option.bind (ref29_Allowed [] a1 a2) fun y5 =>
        Option.bind (ref29_SameList y4.2 y5.2) fun y6 =>
        cond y6 (
          Option.bind law30_awake fun y7 =>
          some y7) (
          some false)) (
        some false)) (
      some false))

end Go.Px
