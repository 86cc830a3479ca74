import Derived.Test.YthoooflagabpoaaEvHoare
import Derived.Test.YthoooflagabpoaaProg
import Derived.Test.YthoooflagabpoaaEvIns30j
set_option linter.unusedVariables false
namespace Go.Proofs.Ythoooflagabpoaa
open Go Go.Ev
def bs (l : List UInt8) : ByteArray := ⟨l.toArray⟩
set_option maxRecDepth 100000
set_option maxHeartbeats 8000000
/-! f8: passkey/passkeycast.New -/
noncomputable def f8 (a1 : List Int) : Option (Unit × (List Int × Int)) :=
  some ((), (a1, 0))
noncomputable def f8C : Cal := tbl []
theorem f8C_ok : CalOK Try.prog f8C ∧ CalNt f8C := tbl_ok (by intro p hp; simp at hp)
noncomputable def f8F : FH := {}
theorem f8_b (a1 : List Int) : bodyC Try.prog f8C f8F [] [] { keep := [] } 8 (.nums .i64) [] (.ptr 0 0) [(.cells (.cons (.nums .i64) (.int .i64)))] a1 _ some = f8 a1 := by kernel_rfl
noncomputable def f8W (x : TyA (.nums .i64) []) : Option (TyR (.ptr 0 0) [(.cells (.cons (.nums .i64) (.int .i64)))]) := f8 x
theorem f8_ok : EntOK Try.prog 8 (ent (.nums .i64) [] (.ptr 0 0) [(.cells (.cons (.nums .i64) (.int .i64)))] f8W) :=
  ent_ok f8F f8C_ok (hp := []) (fn := Try.f8) (by kernel_rfl) (ToldC.nil 0) fun (x : List Int) => f8_b x

/-! f18: passkey/passkeycast.Mod -/
noncomputable def f18 (a1 : Int) (a2 : Int) : Option Int :=
  cond ((IntKind.u64.wrap a2) != 0) (
    some (IntKind.i64.wrap (Int.tmod (IntKind.u64.wrap a1) (IntKind.u64.wrap a2)))) none
noncomputable def f18C : Cal := tbl []
theorem f18C_ok : CalOK Try.prog f18C ∧ CalNt f18C := tbl_ok (by intro p hp; simp at hp)
noncomputable def f18F : FH := {}
theorem f18_b (a1 : Int) (a2 : Int) : bodyC Try.prog f18C f18F [] [] { keep := [] } 18 (.cons (.int .i64) (.int .i64)) [] (.int .i64) [] (a1, a2) _ some = f18 a1 a2 := by kernel_rfl
noncomputable def f18W (x : TyA (.cons (.int .i64) (.int .i64)) []) : Option (TyR (.int .i64) []) := f18 x.1 x.2
theorem f18_ok : EntOK Try.prog 18 (ent (.cons (.int .i64) (.int .i64)) [] (.int .i64) [] f18W) :=
  ent_ok f18F f18C_ok (hp := []) (fn := Try.f18) (by kernel_rfl) (ToldC.nil 0) fun (x : (Int × Int)) => f18_b x.1 x.2

/-! f12: (*passkey/passkeycast.Deck).Next -/
noncomputable def f12 (a1 : Int) (a2 : List Int) (a3 : Int) : Option (Int × (List Int × Int)) :=
  cond (decide (a3 ≥ (((a2.length) : Nat) : Int))) (
    some (0, (a2, a3))) (
    Option.bind (getI a2 (IntKind.i64.wrap ((IntKind.i64.wrap (a3 + 1)) - 1))) fun y1 =>
    Option.bind (f18 y1 a1) fun y2 =>
    some (y2, (a2, (IntKind.i64.wrap (a3 + 1)))))
noncomputable def f12C : Cal := tbl [(18, (ent (.cons (.int .i64) (.int .i64)) [] (.int .i64) [] f18W))]
theorem f12C_ok : CalOK Try.prog f12C ∧ CalNt f12C := tbl_ok (by
  intro p hp
  simp only [List.mem_cons, List.not_mem_nil, or_false] at hp
  rcases hp with rfl
  exact f18_ok)
noncomputable def f12F : FH := {}
theorem f12_b (a1 : Int) (a2 : List Int) (a3 : Int) : bodyC Try.prog f12C f12F [] [] { keep := [] } 12 (.cons (.ptr 0 0) (.int .i64)) [(.cells (.cons (.nums .i64) (.int .i64)))] (.int .i64) [(.cells (.cons (.nums .i64) (.int .i64)))] (((), a1), (a2, a3)) _ some = f12 a1 a2 a3 := by kernel_rfl
noncomputable def f12W (x : TyA (.cons (.ptr 0 0) (.int .i64)) [(.cells (.cons (.nums .i64) (.int .i64)))]) : Option (TyR (.int .i64) [(.cells (.cons (.nums .i64) (.int .i64)))]) := f12 x.1.2 x.2.1 x.2.2
theorem f12_ok : EntOK Try.prog 12 (ent (.cons (.ptr 0 0) (.int .i64)) [(.cells (.cons (.nums .i64) (.int .i64)))] (.int .i64) [(.cells (.cons (.nums .i64) (.int .i64)))] f12W) :=
  ent_ok f12F f12C_ok (hp := [(.cells (.cons (.nums .i64) (.int .i64)))]) (fn := Try.f12) (by kernel_rfl) (ToldC.nil 1) fun (x : ((Unit × Int) × (List Int × Int))) => f12_b x.1.2 x.2.1 x.2.2

/-! f37: passkey/passkeyref1.Words -/
noncomputable def f37l6p : SP := { n := 29, ix := [0, 3, 4, 5], p := (.cons (.nums .u64) (.cons (.ref 0) (.cons (.int .i64) (.int .i64)))), hp := [(.arrN 1 5 .u8)] }
noncomputable def f37l6x : List (Ex × SP) := [((.exit 2), { n := 29, ix := [0, 3, 4], p := (.cons (.nums .u64) (.cons (.ref 0) (.int .i64))), hp := [(.arrN 1 5 .u8)] })]
noncomputable def f37l6 : ((List Int × Unit × Int × Int) × List Int) → Option (((List Int × Unit × Int × Int) × List Int) ⊕ ((List Int × Unit × Int) × List Int)) := fun s => match s with
  | ((a1, (), a2, a3), a4) =>
    cond (decide (a3 ≥ 0)) (
      Option.bind (getI a1 a2) fun y1 =>
      cond (decide (0 ≤ (IntKind.u64.wrap (IntKind.i64.wrap (8 * a3))))) (
        cond (decide (((a4 ++ [(IntKind.u8.wrap (shrI .u64 y1 (IntKind.u64.wrap (IntKind.i64.wrap (8 * a3)))))]).length) * 1 ≤ 140737488355328)) (
          some (.inl ((a1, (), a2, (IntKind.i64.wrap (a3 - 1))), (a4 ++ [(IntKind.u8.wrap (shrI .u64 y1 (IntKind.u64.wrap (IntKind.i64.wrap (8 * a3)))))])))) none) none) (
      some (.inr ((a1, (), a2), a4)))
noncomputable def f37l3p : SP := { n := 29, ix := [0, 3, 4], p := (.cons (.nums .u64) (.cons (.ref 0) (.int .i64))), hp := [(.arrN 1 5 .u8)] }
noncomputable def f37l3x : List (Ex × SP) := [((.exit 0), { n := 29, ix := [3], p := (.ref 0), hp := [(.arrN 1 5 .u8)] })]
noncomputable def f37l3 : ((List Int × Unit × Int) × List Int) → Option (((List Int × Unit × Int) × List Int) ⊕ (Unit × List Int)) := fun s => match s with
  | ((a1, (), a2), a3) =>
    cond (decide (a2 < (((a1.length) : Nat) : Int))) (
      Option.bind (loopFix f37l6 ((a1, (), a2, 7), a3)) fun y1 =>
      some (.inl ((y1.1.1, (), (IntKind.i64.wrap (y1.1.2.2 + 1))), y1.2))) (
      some (.inr ((), a3)))
noncomputable def f37 (a1 : List Int) : Option (Unit × List Int) :=
  Option.bind (loopFix f37l3 ((a1, (), 0), [])) fun y1 =>
  some ((), y1.2)
noncomputable def f37C : Cal := tbl []
theorem f37C_ok : CalOK Try.prog f37C ∧ CalNt f37C := tbl_ok (by intro p hp; simp at hp)
noncomputable def f37F : FH := { loops := [(6, { keep := [0, 3, 4, 5] }, { keep := [0, 2, 3, 4] }), (3, { keep := [0, 3, 4], own := [(3, 5)] }, { keep := [2, 3] })] }
theorem f37l6_s (a1 : List Int) (a2 : Int) (a3 : Int) (a4 : List Int) : stepC Try.prog f37C f37F [] [] 0 ((loopsAt 6 (codeOf Try.f37)).headD .skip) f37l6p f37l6x { keep := [0, 3, 4, 5] } { keep := [0, 2, 3, 4] } ((a1, (), a2, a3), a4) _ some = f37l6 ((a1, (), a2, a3), a4) := by kernel_rfl
theorem f37l6_t : ToldC Try.prog 0 (codeOf Try.f37) ((6, toldL f37l6p f37l6x f37l6) :: []) [] :=
  ToldC.loop f37F 0 (ToldC.nil 0) f37C_ok 6 ((loopsAt 6 (codeOf Try.f37)).headD .skip) (by kernel_rfl) (p := f37l6p) (px := f37l6x) (g := f37l6) (hi := { keep := [0, 3, 4, 5] }) (ho := { keep := [0, 2, 3, 4] }) (by kernel_rfl) fun (x : ((List Int × Unit × Int × Int) × List Int)) => f37l6_s x.1.1 x.1.2.2.1 x.1.2.2.2 x.2
theorem f37l3_s (a1 : List Int) (a2 : Int) (a3 : List Int) : stepC Try.prog f37C f37F ((6, toldL f37l6p f37l6x f37l6) :: []) [] 0 ((loopsAt 3 (codeOf Try.f37)).headD .skip) f37l3p f37l3x { keep := [0, 3, 4], own := [(3, 5)] } { keep := [2, 3] } ((a1, (), a2), a3) _ some = f37l3 ((a1, (), a2), a3) := by kernel_rfl
theorem f37l3_t : ToldC Try.prog 0 (codeOf Try.f37) ((3, toldL f37l3p f37l3x f37l3) :: ((6, toldL f37l6p f37l6x f37l6) :: [])) [] :=
  ToldC.loop f37F 0 f37l6_t f37C_ok 3 ((loopsAt 3 (codeOf Try.f37)).headD .skip) (by kernel_rfl) (p := f37l3p) (px := f37l3x) (g := f37l3) (hi := { keep := [0, 3, 4], own := [(3, 5)] }) (ho := { keep := [2, 3] }) (by kernel_rfl) fun (x : ((List Int × Unit × Int) × List Int)) => f37l3_s x.1.1 x.1.2.2 x.2
theorem f37_b (a1 : List Int) : bodyC Try.prog f37C f37F ((3, toldL f37l3p f37l3x f37l3) :: ((6, toldL f37l6p f37l6x f37l6) :: [])) [] { keep := [] } 37 (.nums .u64) [] (.ref 0) [(.arrN 1 5 .u8)] a1 _ some = f37 a1 := by kernel_rfl
noncomputable def f37W (x : TyA (.nums .u64) []) : Option (TyR (.ref 0) [(.arrN 1 5 .u8)]) := f37 x
theorem f37_ok : EntOK Try.prog 37 (ent (.nums .u64) [] (.ref 0) [(.arrN 1 5 .u8)] f37W) :=
  ent_ok f37F f37C_ok (hp := []) (fn := Try.f37) (by kernel_rfl) f37l3_t fun (x : List Int) => f37_b x

/-! f72: passkey/passkeyref1.rotl -/
noncomputable def f72 (a1 : Int) (a2 : Int) : Option Int :=
  cond (decide (0 ≤ a2)) (
    cond (decide (0 ≤ (IntKind.u64.wrap (64 - a2)))) (
      some (bitsI .or .u64 (shlI .u64 a1 a2) (shrI .u64 a1 (IntKind.u64.wrap (64 - a2))))) none) none
noncomputable def f72C : Cal := tbl []
theorem f72C_ok : CalOK Try.prog f72C ∧ CalNt f72C := tbl_ok (by intro p hp; simp at hp)
noncomputable def f72F : FH := {}
theorem f72_b (a1 : Int) (a2 : Int) : bodyC Try.prog f72C f72F [] [] { keep := [] } 72 (.cons (.int .u64) (.int .u64)) [] (.int .u64) [] (a1, a2) _ some = f72 a1 a2 := by kernel_rfl
noncomputable def f72W (x : TyA (.cons (.int .u64) (.int .u64)) []) : Option (TyR (.int .u64) []) := f72 x.1 x.2
theorem f72_ok : EntOK Try.prog 72 (ent (.cons (.int .u64) (.int .u64)) [] (.int .u64) [] f72W) :=
  ent_ok f72F f72C_ok (hp := []) (fn := Try.f72) (by kernel_rfl) (ToldC.nil 0) fun (x : (Int × Int)) => f72_b x.1 x.2

/-! f64: passkey/passkeyref1.round -/
noncomputable def f64 (a1 : List Int) : Option (List Int) :=
  Option.bind (a1[0]?) fun y1 =>
  Option.bind (a1[1]?) fun y2 =>
  Option.bind ((a1.set 0 (IntKind.u64.wrap (y1 + y2)))[1]?) fun y3 =>
  Option.bind (f72 y3 13) fun y4 =>
  Option.bind ((a1.set 0 (IntKind.u64.wrap (y1 + y2)))[0]?) fun y5 =>
  Option.bind (((a1.set 0 (IntKind.u64.wrap (y1 + y2))).set 1 (bitsI .xor .u64 y4 y5))[0]?) fun y6 =>
  Option.bind (f72 y6 32) fun y7 =>
  Option.bind ((((a1.set 0 (IntKind.u64.wrap (y1 + y2))).set 1 (bitsI .xor .u64 y4 y5)).set 0 y7)[2]?) fun y8 =>
  Option.bind ((((a1.set 0 (IntKind.u64.wrap (y1 + y2))).set 1 (bitsI .xor .u64 y4 y5)).set 0 y7)[3]?) fun y9 =>
  Option.bind (((((a1.set 0 (IntKind.u64.wrap (y1 + y2))).set 1 (bitsI .xor .u64 y4 y5)).set 0 y7).set 2 (IntKind.u64.wrap (y8 + y9)))[3]?) fun y10 =>
  Option.bind (f72 y10 16) fun y11 =>
  Option.bind (((((a1.set 0 (IntKind.u64.wrap (y1 + y2))).set 1 (bitsI .xor .u64 y4 y5)).set 0 y7).set 2 (IntKind.u64.wrap (y8 + y9)))[2]?) fun y12 =>
  Option.bind ((((((a1.set 0 (IntKind.u64.wrap (y1 + y2))).set 1 (bitsI .xor .u64 y4 y5)).set 0 y7).set 2 (IntKind.u64.wrap (y8 + y9))).set 3 (bitsI .xor .u64 y11 y12))[0]?) fun y13 =>
  Option.bind ((((((a1.set 0 (IntKind.u64.wrap (y1 + y2))).set 1 (bitsI .xor .u64 y4 y5)).set 0 y7).set 2 (IntKind.u64.wrap (y8 + y9))).set 3 (bitsI .xor .u64 y11 y12))[3]?) fun y14 =>
  Option.bind (((((((a1.set 0 (IntKind.u64.wrap (y1 + y2))).set 1 (bitsI .xor .u64 y4 y5)).set 0 y7).set 2 (IntKind.u64.wrap (y8 + y9))).set 3 (bitsI .xor .u64 y11 y12)).set 0 (IntKind.u64.wrap (y13 + y14)))[3]?) fun y15 =>
  Option.bind (f72 y15 21) fun y16 =>
  Option.bind (((((((a1.set 0 (IntKind.u64.wrap (y1 + y2))).set 1 (bitsI .xor .u64 y4 y5)).set 0 y7).set 2 (IntKind.u64.wrap (y8 + y9))).set 3 (bitsI .xor .u64 y11 y12)).set 0 (IntKind.u64.wrap (y13 + y14)))[0]?) fun y17 =>
  Option.bind ((((((((a1.set 0 (IntKind.u64.wrap (y1 + y2))).set 1 (bitsI .xor .u64 y4 y5)).set 0 y7).set 2 (IntKind.u64.wrap (y8 + y9))).set 3 (bitsI .xor .u64 y11 y12)).set 0 (IntKind.u64.wrap (y13 + y14))).set 3 (bitsI .xor .u64 y16 y17))[2]?) fun y18 =>
  Option.bind ((((((((a1.set 0 (IntKind.u64.wrap (y1 + y2))).set 1 (bitsI .xor .u64 y4 y5)).set 0 y7).set 2 (IntKind.u64.wrap (y8 + y9))).set 3 (bitsI .xor .u64 y11 y12)).set 0 (IntKind.u64.wrap (y13 + y14))).set 3 (bitsI .xor .u64 y16 y17))[1]?) fun y19 =>
  Option.bind (((((((((a1.set 0 (IntKind.u64.wrap (y1 + y2))).set 1 (bitsI .xor .u64 y4 y5)).set 0 y7).set 2 (IntKind.u64.wrap (y8 + y9))).set 3 (bitsI .xor .u64 y11 y12)).set 0 (IntKind.u64.wrap (y13 + y14))).set 3 (bitsI .xor .u64 y16 y17)).set 2 (IntKind.u64.wrap (y18 + y19)))[1]?) fun y20 =>
  Option.bind (f72 y20 17) fun y21 =>
  Option.bind (((((((((a1.set 0 (IntKind.u64.wrap (y1 + y2))).set 1 (bitsI .xor .u64 y4 y5)).set 0 y7).set 2 (IntKind.u64.wrap (y8 + y9))).set 3 (bitsI .xor .u64 y11 y12)).set 0 (IntKind.u64.wrap (y13 + y14))).set 3 (bitsI .xor .u64 y16 y17)).set 2 (IntKind.u64.wrap (y18 + y19)))[2]?) fun y22 =>
  Option.bind ((((((((((a1.set 0 (IntKind.u64.wrap (y1 + y2))).set 1 (bitsI .xor .u64 y4 y5)).set 0 y7).set 2 (IntKind.u64.wrap (y8 + y9))).set 3 (bitsI .xor .u64 y11 y12)).set 0 (IntKind.u64.wrap (y13 + y14))).set 3 (bitsI .xor .u64 y16 y17)).set 2 (IntKind.u64.wrap (y18 + y19))).set 1 (bitsI .xor .u64 y21 y22))[2]?) fun y23 =>
  Option.bind (f72 y23 32) fun y24 =>
  some ((((((((((a1.set 0 (IntKind.u64.wrap (y1 + y2))).set 1 (bitsI .xor .u64 y4 y5)).set 0 y7).set 2 (IntKind.u64.wrap (y8 + y9))).set 3 (bitsI .xor .u64 y11 y12)).set 0 (IntKind.u64.wrap (y13 + y14))).set 3 (bitsI .xor .u64 y16 y17)).set 2 (IntKind.u64.wrap (y18 + y19))).set 1 (bitsI .xor .u64 y21 y22)).set 2 y24)
noncomputable def f64C : Cal := tbl [(72, (ent (.cons (.int .u64) (.int .u64)) [] (.int .u64) [] f72W))]
theorem f64C_ok : CalOK Try.prog f64C ∧ CalNt f64C := tbl_ok (by
  intro p hp
  simp only [List.mem_cons, List.not_mem_nil, or_false] at hp
  rcases hp with rfl
  exact f72_ok)
noncomputable def f64F : FH := {}
theorem f64_b (a1 : List Int) : bodyC Try.prog f64C f64F [] [] { keep := [] } 64 (.arr .u64 4) [] (.arr .u64 4) [] a1 _ some = f64 a1 := by kernel_rfl
noncomputable def f64W (x : TyA (.arr .u64 4) []) : Option (TyR (.arr .u64 4) []) := f64 x
theorem f64_ok : EntOK Try.prog 64 (ent (.arr .u64 4) [] (.arr .u64 4) [] f64W) :=
  ent_ok f64F f64C_ok (hp := []) (fn := Try.f64) (by kernel_rfl) (ToldC.nil 0) fun (x : List Int) => f64_b x

/-! f48: passkey/passkeyref1.Sum -/
noncomputable def f48j14p : SP := { n := 86, ix := [2, 7, 8, 9, 10, 11], p := (.cons (.nums .u8) (.cons (.ptr 0 0) (.cons (.int .i64) (.cons (.int .u64) (.cons (.int .i64) (.int .u8)))))), hp := [(.ints .u64 4)] }
noncomputable def f48j14x : List (Ex × SP) := [(.norm, { n := 86, ix := [2, 7, 8, 9, 10], p := (.cons (.nums .u8) (.cons (.ptr 0 0) (.cons (.int .i64) (.cons (.int .u64) (.int .i64))))), hp := [(.ints .u64 4)] })]
noncomputable def f48j14 : ((List Int × Unit × Int × Int × Int × Int) × List Int) → Option ((List Int × Unit × Int × Int × Int) × List Int) := fun s => match s with
  | ((a1, (), a2, a3, a4, a5), a6) =>
    some ((a1, (), a2, (bitsI .or .u64 (shlI .u64 a3 8) (IntKind.u64.wrap a5)), a4), a6)
noncomputable def f48l7p : SP := { n := 86, ix := [2, 7, 8, 9, 10], p := (.cons (.nums .u8) (.cons (.ptr 0 0) (.cons (.int .i64) (.cons (.int .u64) (.int .i64))))), hp := [(.ints .u64 4)] }
noncomputable def f48l7x : List (Ex × SP) := [((.exit 2), { n := 86, ix := [2, 7, 8, 9], p := (.cons (.nums .u8) (.cons (.ptr 0 0) (.cons (.int .i64) (.int .u64)))), hp := [(.ints .u64 4)] })]
noncomputable def f48l7 : ((List Int × Unit × Int × Int × Int) × List Int) → Option (((List Int × Unit × Int × Int × Int) × List Int) ⊕ ((List Int × Unit × Int × Int) × List Int)) := fun s => match s with
  | ((a1, (), a2, a3, a4), a5) =>
    cond (decide (a4 ≥ 0)) (
      cond (decide ((IntKind.i64.wrap (a2 + a4)) < (((a1.length) : Nat) : Int))) (
        Option.bind (getI a1 (IntKind.i64.wrap (a2 + a4))) fun y1 =>
        Option.bind (f48j14 ((a1, (), a2, a3, a4, y1), a5)) fun y2 =>
        some (.inl ((y2.1.1, (), y2.1.2.2.1, y2.1.2.2.2.1, (IntKind.i64.wrap (y2.1.2.2.2.2 - 1))), y2.2))) (
        cond (a4 == 7) (
          Option.bind (f48j14 ((a1, (), a2, a3, a4, (IntKind.u8.wrap (((a1.length) : Nat) : Int))), a5)) fun y3 =>
          some (.inl ((y3.1.1, (), y3.1.2.2.1, y3.1.2.2.2.1, (IntKind.i64.wrap (y3.1.2.2.2.2 - 1))), y3.2))) (
          Option.bind (f48j14 ((a1, (), a2, a3, a4, 0), a5)) fun y4 =>
          some (.inl ((y4.1.1, (), y4.1.2.2.1, y4.1.2.2.2.1, (IntKind.i64.wrap (y4.1.2.2.2.2 - 1))), y4.2))))) (
      some (.inr ((a1, (), a2, a3), a5)))
noncomputable def f48l3p : SP := { n := 86, ix := [2, 7, 8], p := (.cons (.nums .u8) (.cons (.ptr 0 0) (.int .i64))), hp := [(.ints .u64 4)] }
noncomputable def f48l3x : List (Ex × SP) := [((.exit 0), { n := 86, ix := [7], p := (.ptr 0 0), hp := [(.ints .u64 4)] })]
noncomputable def f48l3 : ((List Int × Unit × Int) × List Int) → Option (((List Int × Unit × Int) × List Int) ⊕ (Unit × List Int)) := fun s => match s with
  | ((a1, (), a2), a3) =>
    cond (decide (a2 ≤ (((a1.length) : Nat) : Int))) (
      Option.bind (loopFix f48l7 ((a1, (), a2, 0, 7), a3)) fun y1 =>
      Option.bind (y1.2[3]?) fun y2 =>
      Option.bind (f64 (y1.2.set 3 (bitsI .xor .u64 y2 y1.1.2.2.2))) fun y3 =>
      Option.bind (f64 y3) fun y4 =>
      Option.bind (y4[0]?) fun y5 =>
      some (.inl ((y1.1.1, (), (IntKind.i64.wrap (y1.1.2.2.1 + 8))), (y4.set 0 (bitsI .xor .u64 y5 y1.1.2.2.2))))) (
      some (.inr ((), a3)))
noncomputable def f48 (a1 : Int) (a2 : Int) (a3 : List Int) : Option Int :=
  Option.bind (loopFix f48l3 ((a3, (), 0), [(bitsI .xor .u64 a1 8317987319222330741), (bitsI .xor .u64 a2 7237128888997146477), (bitsI .xor .u64 a1 7816392313619706465), (bitsI .xor .u64 a2 8387220255154660723)])) fun y1 =>
  Option.bind (y1.2[2]?) fun y2 =>
  Option.bind (f64 (y1.2.set 2 (bitsI .xor .u64 y2 255))) fun y3 =>
  Option.bind (f64 y3) fun y4 =>
  Option.bind (f64 y4) fun y5 =>
  Option.bind (f64 y5) fun y6 =>
  Option.bind (y6[0]?) fun y7 =>
  Option.bind (y6[1]?) fun y8 =>
  Option.bind (y6[2]?) fun y9 =>
  Option.bind (y6[3]?) fun y10 =>
  some (bitsI .xor .u64 (bitsI .xor .u64 (bitsI .xor .u64 y7 y8) y9) y10)
noncomputable def f48C : Cal := tbl [(64, (ent (.arr .u64 4) [] (.arr .u64 4) [] f64W))]
theorem f48C_ok : CalOK Try.prog f48C ∧ CalNt f48C := tbl_ok (by
  intro p hp
  simp only [List.mem_cons, List.not_mem_nil, or_false] at hp
  rcases hp with rfl
  exact f64_ok)
noncomputable def f48F : FH := { join := [(14, { keep := [2, 7, 8, 9, 10, 11] })], loops := [(7, { keep := [2, 7, 8, 9, 10] }, { keep := [2, 6, 7, 8, 9] }), (3, { keep := [2, 7, 8] }, { keep := [6, 7] })] }
theorem f48j14_s (a1 : List Int) (a2 : Int) (a3 : Int) (a4 : Int) (a5 : Int) (a6 : List Int) : joinC Try.prog f48C f48F [] [] 0 ((joinsAt 14 (codeOf Try.f48)).headD .skip) f48j14p f48j14x { keep := [2, 6, 7, 8, 9, 10] } ((a1, (), a2, a3, a4, a5), a6) _ some = f48j14 ((a1, (), a2, a3, a4, a5), a6) := by kernel_rfl
theorem f48j14_t : ToldC Try.prog 0 (codeOf Try.f48) [] ((14, toldJ f48j14p f48j14x f48j14) :: []) :=
  ToldC.join f48F 0 (ToldC.nil 0) f48C_ok 14 ((joinsAt 14 (codeOf Try.f48)).headD .skip) (by kernel_rfl) (p := f48j14p) (px := f48j14x) (g := f48j14) (ho := { keep := [2, 6, 7, 8, 9, 10] }) fun (x : ((List Int × Unit × Int × Int × Int × Int) × List Int)) => f48j14_s x.1.1 x.1.2.2.1 x.1.2.2.2.1 x.1.2.2.2.2.1 x.1.2.2.2.2.2 x.2
theorem f48l7_s (a1 : List Int) (a2 : Int) (a3 : Int) (a4 : Int) (a5 : List Int) : stepC Try.prog f48C f48F [] ((14, toldJ f48j14p f48j14x f48j14) :: []) 0 ((loopsAt 7 (codeOf Try.f48)).headD .skip) f48l7p f48l7x { keep := [2, 7, 8, 9, 10] } { keep := [2, 6, 7, 8, 9] } ((a1, (), a2, a3, a4), a5) _ some = f48l7 ((a1, (), a2, a3, a4), a5) := by kernel_rfl
theorem f48l7_t : ToldC Try.prog 0 (codeOf Try.f48) ((7, toldL f48l7p f48l7x f48l7) :: []) ((14, toldJ f48j14p f48j14x f48j14) :: []) :=
  ToldC.loop f48F 0 f48j14_t f48C_ok 7 ((loopsAt 7 (codeOf Try.f48)).headD .skip) (by kernel_rfl) (p := f48l7p) (px := f48l7x) (g := f48l7) (hi := { keep := [2, 7, 8, 9, 10] }) (ho := { keep := [2, 6, 7, 8, 9] }) (by kernel_rfl) fun (x : ((List Int × Unit × Int × Int × Int) × List Int)) => f48l7_s x.1.1 x.1.2.2.1 x.1.2.2.2.1 x.1.2.2.2.2 x.2
theorem f48l3_s (a1 : List Int) (a2 : Int) (a3 : List Int) : stepC Try.prog f48C f48F ((7, toldL f48l7p f48l7x f48l7) :: []) ((14, toldJ f48j14p f48j14x f48j14) :: []) 0 ((loopsAt 3 (codeOf Try.f48)).headD .skip) f48l3p f48l3x { keep := [2, 7, 8] } { keep := [6, 7] } ((a1, (), a2), a3) _ some = f48l3 ((a1, (), a2), a3) := by kernel_rfl
theorem f48l3_t : ToldC Try.prog 0 (codeOf Try.f48) ((3, toldL f48l3p f48l3x f48l3) :: ((7, toldL f48l7p f48l7x f48l7) :: [])) ((14, toldJ f48j14p f48j14x f48j14) :: []) :=
  ToldC.loop f48F 0 f48l7_t f48C_ok 3 ((loopsAt 3 (codeOf Try.f48)).headD .skip) (by kernel_rfl) (p := f48l3p) (px := f48l3x) (g := f48l3) (hi := { keep := [2, 7, 8] }) (ho := { keep := [6, 7] }) (by kernel_rfl) fun (x : ((List Int × Unit × Int) × List Int)) => f48l3_s x.1.1 x.1.2.2 x.2
theorem f48_b (a1 : Int) (a2 : Int) (a3 : List Int) : bodyC Try.prog f48C f48F ((3, toldL f48l3p f48l3x f48l3) :: ((7, toldL f48l7p f48l7x f48l7) :: [])) ((14, toldJ f48j14p f48j14x f48j14) :: []) { keep := [] } 48 (.cons (.int .u64) (.cons (.int .u64) (.nums .u8))) [] (.int .u64) [] (a1, a2, a3) _ some = f48 a1 a2 a3 := by kernel_rfl
noncomputable def f48W (x : TyA (.cons (.int .u64) (.cons (.int .u64) (.nums .u8))) []) : Option (TyR (.int .u64) []) := f48 x.1 x.2.1 x.2.2
theorem f48_ok : EntOK Try.prog 48 (ent (.cons (.int .u64) (.cons (.int .u64) (.nums .u8))) [] (.int .u64) [] f48W) :=
  ent_ok f48F f48C_ok (hp := []) (fn := Try.f48) (by kernel_rfl) f48l3_t fun (x : (Int × Int × List Int)) => f48_b x.1 x.2.1 x.2.2

/-! f38: passkey/passkeyref1.Mac -/
noncomputable def f38 (a1 : Int) (a2 : Int) (a3 : List Int) : Option Int :=
  Option.bind (f48 a1 (IntKind.u64.wrap (1 + (IntKind.u64.wrap a2))) a3) fun y1 =>
  some y1
noncomputable def f38C : Cal := tbl [(48, (ent (.cons (.int .u64) (.cons (.int .u64) (.nums .u8))) [] (.int .u64) [] f48W))]
theorem f38C_ok : CalOK Try.prog f38C ∧ CalNt f38C := tbl_ok (by
  intro p hp
  simp only [List.mem_cons, List.not_mem_nil, or_false] at hp
  rcases hp with rfl
  exact f48_ok)
noncomputable def f38F : FH := {}
theorem f38_b (a1 : Int) (a2 : Int) (a3 : List Int) : bodyC Try.prog f38C f38F [] [] { keep := [] } 38 (.cons (.int .u64) (.cons (.int .i64) (.nums .u8))) [] (.int .u64) [] (a1, a2, a3) _ some = f38 a1 a2 a3 := by kernel_rfl
noncomputable def f38W (x : TyA (.cons (.int .u64) (.cons (.int .i64) (.nums .u8))) []) : Option (TyR (.int .u64) []) := f38 x.1 x.2.1 x.2.2
theorem f38_ok : EntOK Try.prog 38 (ent (.cons (.int .u64) (.cons (.int .i64) (.nums .u8))) [] (.int .u64) [] f38W) :=
  ent_ok f38F f38C_ok (hp := []) (fn := Try.f38) (by kernel_rfl) (ToldC.nil 0) fun (x : (Int × Int × List Int)) => f38_b x.1 x.2.1 x.2.2

/-! f22: passkey/passkeyref3.Stream -/
noncomputable def f22l4p : SP := { n := 32, ix := [0, 1, 2, 7, 8], p := (.cons (.int .u64) (.cons (.int .u64) (.cons (.int .i64) (.cons (.ref 0) (.int .i64))))), hp := [(.arrN 1 5 .u8)] }
noncomputable def f22l4x : List (Ex × SP) := [((.exit 0), { n := 32, ix := [2, 7], p := (.cons (.int .i64) (.ref 0)), hp := [(.arrN 1 5 .u8)] })]
noncomputable def f22l4 : ((Int × Int × Int × Unit × Int) × List Int) → Option (((Int × Int × Int × Unit × Int) × List Int) ⊕ ((Int × Unit) × List Int)) := fun s => match s with
  | ((a1, a2, a3, (), a4), a5) =>
    cond (decide ((((a5.length) : Nat) : Int) < a3)) (
      Option.bind (f37 [a2, (IntKind.u64.wrap a4)]) fun y1 =>
      Option.bind (f38 a1 5 y1.2) fun y2 =>
      Option.bind (f37 [y2]) fun y3 =>
      cond (decide (((a5 ++ y3.2).length) * 1 ≤ 140737488355328)) (
        some (.inl ((a1, a2, a3, (), (IntKind.i64.wrap (a4 + 1))), (a5 ++ y3.2)))) none) (
      some (.inr ((a3, ()), a5)))
noncomputable def f22 (a1 : Int) (a2 : Int) (a3 : Int) : Option (Unit × List Int) :=
  Option.bind (loopFix f22l4 ((a1, a2, (if 1024 < (if 0 > a3 then 0 else a3) then 1024 else (if 0 > a3 then 0 else a3)), (), 0), [])) fun y1 =>
  cond (okBounds 0 y1.1.1 (y1.2.length)) (
    some ((), (cut y1.2 0 y1.1.1))) none
noncomputable def f22C : Cal := tbl [(37, (ent (.nums .u64) [] (.ref 0) [(.arrN 1 5 .u8)] f37W)), (38, (ent (.cons (.int .u64) (.cons (.int .i64) (.nums .u8))) [] (.int .u64) [] f38W))]
theorem f22C_ok : CalOK Try.prog f22C ∧ CalNt f22C := tbl_ok (by
  intro p hp
  simp only [List.mem_cons, List.not_mem_nil, or_false] at hp
  rcases hp with rfl | rfl
  · exact f37_ok
  · exact f38_ok)
noncomputable def f22F : FH := { loops := [(4, { keep := [0, 1, 2, 7, 8], own := [(7, 5)] }, { keep := [2, 6, 7] })], ops := [(6, [(6, .borrow), (7, .borrow), (9, .borrow)]), (7, [(2, .take)])] }
theorem f22l4_s (a1 : Int) (a2 : Int) (a3 : Int) (a4 : Int) (a5 : List Int) : stepC Try.prog f22C f22F [] [] 0 ((loopsAt 4 (codeOf Try.f22)).headD .skip) f22l4p f22l4x { keep := [0, 1, 2, 7, 8], own := [(7, 5)] } { keep := [2, 6, 7] } ((a1, a2, a3, (), a4), a5) _ some = f22l4 ((a1, a2, a3, (), a4), a5) := by kernel_rfl
theorem f22l4_t : ToldC Try.prog 0 (codeOf Try.f22) ((4, toldL f22l4p f22l4x f22l4) :: []) [] :=
  ToldC.loop f22F 0 (ToldC.nil 0) f22C_ok 4 ((loopsAt 4 (codeOf Try.f22)).headD .skip) (by kernel_rfl) (p := f22l4p) (px := f22l4x) (g := f22l4) (hi := { keep := [0, 1, 2, 7, 8], own := [(7, 5)] }) (ho := { keep := [2, 6, 7] }) (by kernel_rfl) fun (x : ((Int × Int × Int × Unit × Int) × List Int)) => f22l4_s x.1.1 x.1.2.1 x.1.2.2.1 x.1.2.2.2.2 x.2
theorem f22_b (a1 : Int) (a2 : Int) (a3 : Int) : bodyC Try.prog f22C f22F ((4, toldL f22l4p f22l4x f22l4) :: []) [] { keep := [] } 22 (.cons (.int .u64) (.cons (.int .u64) (.int .i64))) [] (.ref 0) [(.arrN 1 5 .u8)] (a1, a2, a3) _ some = f22 a1 a2 a3 := by kernel_rfl
noncomputable def f22W (x : TyA (.cons (.int .u64) (.cons (.int .u64) (.int .i64))) []) : Option (TyR (.ref 0) [(.arrN 1 5 .u8)]) := f22 x.1 x.2.1 x.2.2
theorem f22_ok : EntOK Try.prog 22 (ent (.cons (.int .u64) (.cons (.int .u64) (.int .i64))) [] (.ref 0) [(.arrN 1 5 .u8)] f22W) :=
  ent_ok f22F f22C_ok (hp := []) (fn := Try.f22) (by kernel_rfl) f22l4_t fun (x : (Int × Int × Int)) => f22_b x.1 x.2.1 x.2.2

/-! f11: passkey/passkeycast.Bytes -/
noncomputable def f11 (a1 : Int) (a2 : Int) : Option (Unit × List Int) :=
  Option.bind (f22 (IntKind.u64.wrap ((IntKind.u64.wrap a1) + 1)) 7 (if 0 > (if 1024 < a2 then 1024 else a2) then 0 else (if 1024 < a2 then 1024 else a2))) fun y1 =>
  some ((), y1.2)
noncomputable def f11C : Cal := tbl [(22, (ent (.cons (.int .u64) (.cons (.int .u64) (.int .i64))) [] (.ref 0) [(.arrN 1 5 .u8)] f22W))]
theorem f11C_ok : CalOK Try.prog f11C ∧ CalNt f11C := tbl_ok (by
  intro p hp
  simp only [List.mem_cons, List.not_mem_nil, or_false] at hp
  rcases hp with rfl
  exact f22_ok)
noncomputable def f11F : FH := {}
theorem f11_b (a1 : Int) (a2 : Int) : bodyC Try.prog f11C f11F [] [] { keep := [] } 11 (.cons (.int .i64) (.int .i64)) [] (.ref 0) [(.arrN 1 5 .u8)] (a1, a2) _ some = f11 a1 a2 := by kernel_rfl
noncomputable def f11W (x : TyA (.cons (.int .i64) (.int .i64)) []) : Option (TyR (.ref 0) [(.arrN 1 5 .u8)]) := f11 x.1 x.2
theorem f11_ok : EntOK Try.prog 11 (ent (.cons (.int .i64) (.int .i64)) [] (.ref 0) [(.arrN 1 5 .u8)] f11W) :=
  ent_ok f11F f11C_ok (hp := []) (fn := Try.f11) (by kernel_rfl) (ToldC.nil 0) fun (x : (Int × Int)) => f11_b x.1 x.2

/-! f10: passkey/passkeylaw30.stored -/
noncomputable def f10 (a1 : Int) (a2 : Int) : Option (List Int × Int × Int × Int × Int × Bool × Int × List PD × Bool × Int × Int) :=
  Option.bind (f18 a1 12) fun y1 =>
  Option.bind (f11 (IntKind.i64.wrap (600 + y1)) 176) fun y2 =>
  some (y2.2, a2, 5, 0, 0, false, 0, [], false, 3, 0)
noncomputable def f10C : Cal := tbl [(18, (ent (.cons (.int .i64) (.int .i64)) [] (.int .i64) [] f18W)), (11, (ent (.cons (.int .i64) (.int .i64)) [] (.ref 0) [(.arrN 1 5 .u8)] f11W))]
theorem f10C_ok : CalOK Try.prog f10C ∧ CalNt f10C := tbl_ok (by
  intro p hp
  simp only [List.mem_cons, List.not_mem_nil, or_false] at hp
  rcases hp with rfl | rfl
  · exact f18_ok
  · exact f11_ok)
noncomputable def f10F : FH := {}
theorem f10_b (a1 : Int) (a2 : Int) : bodyC Try.prog f10C f10F [] [] { keep := [], fz := [0] } 10 (.cons (.int .i64) (.int .i64)) [] (.agg (.cons (.nums .u8) (.cons (.int .i64) (.cons (.int .u64) (.cons (.int .u64) (.cons (.int .i64) (.cons .bool (.cons (.int .u64) (.cons (.sl 2) (.cons .bool (.cons (.int .i64) (.int .i64)))))))))))) [] (a1, a2) _ some = f10 a1 a2 := by kernel_rfl
noncomputable def f10W (x : TyA (.cons (.int .i64) (.int .i64)) []) : Option (TyR (.agg (.cons (.nums .u8) (.cons (.int .i64) (.cons (.int .u64) (.cons (.int .u64) (.cons (.int .i64) (.cons .bool (.cons (.int .u64) (.cons (.sl 2) (.cons .bool (.cons (.int .i64) (.int .i64)))))))))))) []) := f10 x.1 x.2
theorem f10_ok : EntOK Try.prog 10 (ent (.cons (.int .i64) (.int .i64)) [] (.agg (.cons (.nums .u8) (.cons (.int .i64) (.cons (.int .u64) (.cons (.int .u64) (.cons (.int .i64) (.cons .bool (.cons (.int .u64) (.cons (.sl 2) (.cons .bool (.cons (.int .i64) (.int .i64)))))))))))) [] f10W) :=
  ent_ok f10F f10C_ok (hp := []) (fn := Try.f10) (by kernel_rfl) (ToldC.nil 0) fun (x : (Int × Int)) => f10_b x.1 x.2

/-! f31: passkey/account.Accept$1 -/
noncomputable def f31 (a1 : Int) (a2 : Int) (a3 : Int) : Option (Bool × Int) :=
  some ((a1 == a3), a3)
noncomputable def f31C : Cal := tbl []
theorem f31C_ok : CalOK Try.prog f31C ∧ CalNt f31C := tbl_ok (by intro p hp; simp at hp)
noncomputable def f31F : FH := {}
theorem f31_b (a1 : Int) (a2 : Int) (a3 : Int) : bodyC Try.prog f31C f31F [] [] { keep := [] } 31 (.cons (.agg (.cons (.int .i64) (.int .i64))) (.ptr 0 0)) [(.cells (.int .i64))] .bool [(.cells (.int .i64))] (((a1, a2), ()), a3) _ some = f31 a1 a2 a3 := by kernel_rfl
noncomputable def f31W (x : TyA (.cons (.agg (.cons (.int .i64) (.int .i64))) (.ptr 0 0)) [(.cells (.int .i64))]) : Option (TyR .bool [(.cells (.int .i64))]) := f31 x.1.1.1 x.1.1.2 x.2
theorem f31_ok : EntOK Try.prog 31 (ent (.cons (.agg (.cons (.int .i64) (.int .i64))) (.ptr 0 0)) [(.cells (.int .i64))] .bool [(.cells (.int .i64))] f31W) :=
  ent_ok f31F f31C_ok (hp := [(.cells (.int .i64))]) (fn := Try.f31) (by kernel_rfl) (ToldC.nil 1) fun (x : (((Int × Int) × Unit) × Int)) => f31_b x.1.1.1 x.1.1.2 x.2

/-! f30: slices.IndexFunc[[]passkey/api.Range,passkey/api.Range] -/
noncomputable def f30l2p : SP := { n := 19, ix := [0, 1, 7, 8], p := (.cons (.sl 2) (.cons (.clo 31 .nil (.ptr 0 0)) (.cons (.int .i64) (.int .i64)))), hp := [(.cells (.int .i64))] }
noncomputable def f30l2x : List (Ex × SP) := [(.ret, { n := 19, ix := [4], p := (.int .i64), hp := [(.cells (.int .i64))] }), ((.exit 0), { n := 19, ix := [], p := .nil, hp := [(.cells (.int .i64))] })]
noncomputable def f30l2 : ((List PD × (Unit × Unit) × Int × Int) × Int) → Option (((List PD × (Unit × Unit) × Int × Int) × Int) ⊕ ((Int × Int) ⊕ (Unit × Int))) := fun s => match s with
  | ((a1, ((), ()), a2, a3), a4) =>
    cond (decide (a3 < a2)) (
      Option.bind (getI a1 a3) fun y1 =>
      Option.bind (PD.intAt .i64 y1 0) fun y2 =>
      Option.bind (PD.intAt .i64 y1 1) fun y3 =>
      Option.bind (f31 y2 y3 a4) fun y4 =>
      cond y4.1 (
        some (.inr (.inl (a3, y4.2)))) (
        some (.inl ((a1, ((), ()), a2, (IntKind.i64.wrap (a3 + 1))), y4.2)))) (
      some (.inr (.inr ((), a4))))
noncomputable def f30 (a1 : List PD) (a2 : Int) : Option (Int × Int) :=
  Option.bind (loopFix f30l2 ((a1, ((), ()), (((a1.length) : Nat) : Int), 0), a2)) fun y1 =>
  match y1 with
  | (.inl y2) =>
    some (y2.1, y2.2)
  | (.inr y3) =>
    some ((-1), y3.2)
noncomputable def f30C : Cal := tbl [(31, (ent (.cons (.agg (.cons (.int .i64) (.int .i64))) (.ptr 0 0)) [(.cells (.int .i64))] .bool [(.cells (.int .i64))] f31W))]
theorem f30C_ok : CalOK Try.prog f30C ∧ CalNt f30C := tbl_ok (by
  intro p hp
  simp only [List.mem_cons, List.not_mem_nil, or_false] at hp
  rcases hp with rfl
  exact f31_ok)
noncomputable def f30F : FH := { loops := [(2, { keep := [0, 1, 7, 8] }, { keep := [4] })] }
theorem f30l2_s (a1 : List PD) (a2 : Int) (a3 : Int) (a4 : Int) : stepC Try.prog f30C f30F [] [] 1 ((loopsAt 2 (codeOf Try.f30)).headD .skip) f30l2p f30l2x { keep := [0, 1, 7, 8] } { keep := [4] } ((a1, ((), ()), a2, a3), a4) _ some = f30l2 ((a1, ((), ()), a2, a3), a4) := by kernel_rfl
theorem f30l2_t : ToldC Try.prog 1 (codeOf Try.f30) ((2, toldL f30l2p f30l2x f30l2) :: []) [] :=
  ToldC.loop f30F 1 (ToldC.nil 1) f30C_ok 2 ((loopsAt 2 (codeOf Try.f30)).headD .skip) (by kernel_rfl) (p := f30l2p) (px := f30l2x) (g := f30l2) (hi := { keep := [0, 1, 7, 8] }) (ho := { keep := [4] }) (by kernel_rfl) fun (x : ((List PD × (Unit × Unit) × Int × Int) × Int)) => f30l2_s x.1.1 x.1.2.2.1 x.1.2.2.2 x.2
theorem f30_b (a1 : List PD) (a2 : Int) : bodyC Try.prog f30C f30F ((2, toldL f30l2p f30l2x f30l2) :: []) [] { keep := [] } 30 (.cons (.sl 2) (.clo 31 .nil (.ptr 0 0))) [(.cells (.int .i64))] (.int .i64) [(.cells (.int .i64))] ((a1, ((), ())), a2) _ some = f30 a1 a2 := by kernel_rfl
noncomputable def f30W (x : TyA (.cons (.sl 2) (.clo 31 .nil (.ptr 0 0))) [(.cells (.int .i64))]) : Option (TyR (.int .i64) [(.cells (.int .i64))]) := f30 x.1.1 x.2
theorem f30_ok : EntOK Try.prog 30 (ent (.cons (.sl 2) (.clo 31 .nil (.ptr 0 0))) [(.cells (.int .i64))] (.int .i64) [(.cells (.int .i64))] f30W) :=
  ent_ok f30F f30C_ok (hp := [(.cells (.int .i64))]) (fn := Try.f30) (by kernel_rfl) f30l2_t fun (x : ((List PD × (Unit × Unit)) × Int)) => f30_b x.1.1 x.2

/-! f32: slices.Clone[[]passkey/api.Range,passkey/api.Range] -/
noncomputable def f32 (a1 : List PD) : Option (Unit × List PD) :=
  cond (List.isEmpty a1) (
    ambO (
      some ((), [])) (
      cond (decide ((([] ++ a1).length) * 16 ≤ 140737488355328)) (
        some ((), ([] ++ a1))) none)) (
    cond (decide ((([] ++ a1).length) * 16 ≤ 140737488355328)) (
      some ((), ([] ++ a1))) none)
noncomputable def f32C : Cal := tbl []
theorem f32C_ok : CalOK Try.prog f32C ∧ CalNt f32C := tbl_ok (by intro p hp; simp at hp)
noncomputable def f32F : FH := {}
theorem f32_b (a1 : List PD) : bodyC Try.prog f32C f32F [] [] { keep := [], own := [(0, 75)] } 32 (.sl 2) [] (.ref 0) [(.arrS 2 75 2)] a1 _ some = f32 a1 := by kernel_rfl
noncomputable def f32W (x : TyA (.sl 2) []) : Option (TyR (.ref 0) [(.arrS 2 75 2)]) := f32 x
theorem f32_ok : EntOK Try.prog 32 (ent (.sl 2) [] (.ref 0) [(.arrS 2 75 2)] f32W) :=
  ent_ok f32F f32C_ok (hp := []) (fn := Try.f32) (by kernel_rfl) (ToldC.nil 0) fun (x : List PD) => f32_b x

/-! f33: passkey/account.Accept$2 -/
noncomputable def f33 (a1 : Int) (a2 : Int) (a3 : Int) : Option (Bool × Int) :=
  some ((decide (a1 > a3)), a3)
noncomputable def f33C : Cal := tbl []
theorem f33C_ok : CalOK Try.prog f33C ∧ CalNt f33C := tbl_ok (by intro p hp; simp at hp)
noncomputable def f33F : FH := {}
theorem f33_b (a1 : Int) (a2 : Int) (a3 : Int) : bodyC Try.prog f33C f33F [] [] { keep := [] } 33 (.cons (.agg (.cons (.int .i64) (.int .i64))) (.ptr 0 0)) [(.cells (.int .i64))] .bool [(.cells (.int .i64))] (((a1, a2), ()), a3) _ some = f33 a1 a2 a3 := by kernel_rfl
noncomputable def f33W (x : TyA (.cons (.agg (.cons (.int .i64) (.int .i64))) (.ptr 0 0)) [(.cells (.int .i64))]) : Option (TyR .bool [(.cells (.int .i64))]) := f33 x.1.1.1 x.1.1.2 x.2
theorem f33_ok : EntOK Try.prog 33 (ent (.cons (.agg (.cons (.int .i64) (.int .i64))) (.ptr 0 0)) [(.cells (.int .i64))] .bool [(.cells (.int .i64))] f33W) :=
  ent_ok f33F f33C_ok (hp := [(.cells (.int .i64))]) (fn := Try.f33) (by kernel_rfl) (ToldC.nil 1) fun (x : (((Int × Int) × Unit) × Int)) => f33_b x.1.1.1 x.1.1.2 x.2

/-! f30a: slices.IndexFunc[[]passkey/api.Range,passkey/api.Range] -/
noncomputable def f30al2p : SP := { n := 19, ix := [0, 1, 7, 8], p := (.cons (.sl 2) (.cons (.clo 33 .nil (.ptr 0 0)) (.cons (.int .i64) (.int .i64)))), hp := [(.cells (.int .i64))] }
noncomputable def f30al2x : List (Ex × SP) := [(.ret, { n := 19, ix := [4], p := (.int .i64), hp := [(.cells (.int .i64))] }), ((.exit 0), { n := 19, ix := [], p := .nil, hp := [(.cells (.int .i64))] })]
noncomputable def f30al2 : ((List PD × (Unit × Unit) × Int × Int) × Int) → Option (((List PD × (Unit × Unit) × Int × Int) × Int) ⊕ ((Int × Int) ⊕ (Unit × Int))) := fun s => match s with
  | ((a1, ((), ()), a2, a3), a4) =>
    cond (decide (a3 < a2)) (
      Option.bind (getI a1 a3) fun y1 =>
      Option.bind (PD.intAt .i64 y1 0) fun y2 =>
      Option.bind (PD.intAt .i64 y1 1) fun y3 =>
      Option.bind (f33 y2 y3 a4) fun y4 =>
      cond y4.1 (
        some (.inr (.inl (a3, y4.2)))) (
        some (.inl ((a1, ((), ()), a2, (IntKind.i64.wrap (a3 + 1))), y4.2)))) (
      some (.inr (.inr ((), a4))))
noncomputable def f30a (a1 : List PD) (a2 : Int) : Option (Int × Int) :=
  Option.bind (loopFix f30al2 ((a1, ((), ()), (((a1.length) : Nat) : Int), 0), a2)) fun y1 =>
  match y1 with
  | (.inl y2) =>
    some (y2.1, y2.2)
  | (.inr y3) =>
    some ((-1), y3.2)
noncomputable def f30aC : Cal := tbl [(33, (ent (.cons (.agg (.cons (.int .i64) (.int .i64))) (.ptr 0 0)) [(.cells (.int .i64))] .bool [(.cells (.int .i64))] f33W))]
theorem f30aC_ok : CalOK Try.prog f30aC ∧ CalNt f30aC := tbl_ok (by
  intro p hp
  simp only [List.mem_cons, List.not_mem_nil, or_false] at hp
  rcases hp with rfl
  exact f33_ok)
noncomputable def f30aF : FH := { loops := [(2, { keep := [0, 1, 7, 8] }, { keep := [4] })] }
theorem f30al2_s (a1 : List PD) (a2 : Int) (a3 : Int) (a4 : Int) : stepC Try.prog f30aC f30aF [] [] 1 ((loopsAt 2 (codeOf Try.f30)).headD .skip) f30al2p f30al2x { keep := [0, 1, 7, 8] } { keep := [4] } ((a1, ((), ()), a2, a3), a4) _ some = f30al2 ((a1, ((), ()), a2, a3), a4) := by kernel_rfl
theorem f30al2_t : ToldC Try.prog 1 (codeOf Try.f30) ((2, toldL f30al2p f30al2x f30al2) :: []) [] :=
  ToldC.loop f30aF 1 (ToldC.nil 1) f30aC_ok 2 ((loopsAt 2 (codeOf Try.f30)).headD .skip) (by kernel_rfl) (p := f30al2p) (px := f30al2x) (g := f30al2) (hi := { keep := [0, 1, 7, 8] }) (ho := { keep := [4] }) (by kernel_rfl) fun (x : ((List PD × (Unit × Unit) × Int × Int) × Int)) => f30al2_s x.1.1 x.1.2.2.1 x.1.2.2.2 x.2
theorem f30a_b (a1 : List PD) (a2 : Int) : bodyC Try.prog f30aC f30aF ((2, toldL f30al2p f30al2x f30al2) :: []) [] { keep := [] } 30 (.cons (.sl 2) (.clo 33 .nil (.ptr 0 0))) [(.cells (.int .i64))] (.int .i64) [(.cells (.int .i64))] ((a1, ((), ())), a2) _ some = f30a a1 a2 := by kernel_rfl
noncomputable def f30aW (x : TyA (.cons (.sl 2) (.clo 33 .nil (.ptr 0 0))) [(.cells (.int .i64))]) : Option (TyR (.int .i64) [(.cells (.int .i64))]) := f30a x.1.1 x.2
theorem f30a_ok : EntOK Try.prog 30 (ent (.cons (.sl 2) (.clo 33 .nil (.ptr 0 0))) [(.cells (.int .i64))] (.int .i64) [(.cells (.int .i64))] f30aW) :=
  ent_ok f30aF f30aC_ok (hp := [(.cells (.int .i64))]) (fn := Try.f30) (by kernel_rfl) f30al2_t fun (x : ((List PD × (Unit × Unit)) × Int)) => f30a_b x.1.1 x.2

/-! f19: passkey/account.Accept -/
noncomputable def f19j19p : SP := { n := 104, ix := [1, 3, 4, 8, 12], p := (.cons (.int .i64) (.cons (.int .i64) (.cons (.ptr 0 0) (.cons (.ptr 1 0) (.ref 2))))), hp := [(.cells (.cons (.nums .u8) (.cons (.int .i64) (.cons (.int .u64) (.cons (.int .u64) (.cons (.int .i64) (.cons .bool (.cons (.int .u64) (.cons (.sl 2) (.cons .bool (.cons (.int .i64) (.int .i64)))))))))))), (.cells (.cons (.nums .u8) (.cons (.int .i64) (.cons (.int .u64) (.cons (.int .u64) (.cons (.int .i64) (.cons .bool (.cons (.int .u64) (.cons (.sl 2) (.cons .bool (.cons (.int .i64) (.int .i64)))))))))))), (.arrS 2 75 2)] }
noncomputable def f19j19x : List (Ex × SP) := [(.ret, { n := 104, ix := [8, 9], p := (.cons (.ptr 0 0) (.int .i64)), hp := [(.cells (.cons (.nums .u8) (.cons (.int .i64) (.cons (.int .u64) (.cons (.int .u64) (.cons (.int .i64) (.cons .bool (.cons (.int .u64) (.cons (.ref 1) (.cons .bool (.cons (.int .i64) (.int .i64)))))))))))), (.arrS 2 75 2)] })]
noncomputable def f19j19B (a1 : Int) (a2 : Int) (a3 : List Int) (a4 : Int) (a5 : Int) (a6 : Int) (a7 : Int) (a8 : Bool) (a9 : Int) (a10 : List PD) (a11 : Bool) (a12 : Int) (a13 : Int) (a14 : List Int) (a15 : Int) (a16 : Int) (a17 : Int) (a18 : Int) (a19 : Bool) (a20 : Int) (a21 : List PD) (a22 : Bool) (a23 : Int) (a24 : Int) (a25 : List PD) : Option ((Unit × Int) × ((List Int × Int × Int × Int × Int × Bool × Int × Unit × Bool × Int × Int) × List PD)) :=
  cond (decide (0 ≤ a1)) (
    some (((), 0), ((a3, a4, a5, a6, a7, a8, (bitsI .or .u64 a9 (shlI .u64 1 a1)), (), a11, a12, a2), a25))) none
noncomputable def f19j19 : ((Int × Int × Unit × Unit × Unit) × ((List Int × Int × Int × Int × Int × Bool × Int × List PD × Bool × Int × Int) × (List Int × Int × Int × Int × Int × Bool × Int × List PD × Bool × Int × Int) × List PD)) → Option ((Unit × Int) × ((List Int × Int × Int × Int × Int × Bool × Int × Unit × Bool × Int × Int) × List PD)) := fun s => f19j19B s.1.1 s.1.2.1 s.2.1.1 s.2.1.2.1 s.2.1.2.2.1 s.2.1.2.2.2.1 s.2.1.2.2.2.2.1 s.2.1.2.2.2.2.2.1 s.2.1.2.2.2.2.2.2.1 s.2.1.2.2.2.2.2.2.2.1 s.2.1.2.2.2.2.2.2.2.2.1 s.2.1.2.2.2.2.2.2.2.2.2.1 s.2.1.2.2.2.2.2.2.2.2.2.2 s.2.2.1.1 s.2.2.1.2.1 s.2.2.1.2.2.1 s.2.2.1.2.2.2.1 s.2.2.1.2.2.2.2.1 s.2.2.1.2.2.2.2.2.1 s.2.2.1.2.2.2.2.2.2.1 s.2.2.1.2.2.2.2.2.2.2.1 s.2.2.1.2.2.2.2.2.2.2.2.1 s.2.2.1.2.2.2.2.2.2.2.2.2.1 s.2.2.1.2.2.2.2.2.2.2.2.2.2 s.2.2.2
noncomputable def f19j18p : SP := { n := 104, ix := [1, 3, 4, 6, 8, 10, 12], p := (.cons (.int .i64) (.cons (.int .i64) (.cons (.ptr 0 0) (.cons (.ptr 1 0) (.cons (.ptr 2 0) (.cons (.int .i64) (.ref 3))))))), hp := [(.cells (.cons (.nums .u8) (.cons (.int .i64) (.cons (.int .u64) (.cons (.int .u64) (.cons (.int .i64) (.cons .bool (.cons (.int .u64) (.cons (.sl 2) (.cons .bool (.cons (.int .i64) (.int .i64)))))))))))), (.cells (.int .i64)), (.cells (.cons (.nums .u8) (.cons (.int .i64) (.cons (.int .u64) (.cons (.int .u64) (.cons (.int .i64) (.cons .bool (.cons (.int .u64) (.cons (.sl 2) (.cons .bool (.cons (.int .i64) (.int .i64)))))))))))), (.arrS 2 75 2)] }
noncomputable def f19j18x : List (Ex × SP) := [(.norm, { n := 104, ix := [1, 3, 4, 8, 12], p := (.cons (.int .i64) (.cons (.int .i64) (.cons (.ptr 0 0) (.cons (.ptr 1 0) (.ref 2))))), hp := [(.cells (.cons (.nums .u8) (.cons (.int .i64) (.cons (.int .u64) (.cons (.int .u64) (.cons (.int .i64) (.cons .bool (.cons (.int .u64) (.cons (.sl 2) (.cons .bool (.cons (.int .i64) (.int .i64)))))))))))), (.cells (.cons (.nums .u8) (.cons (.int .i64) (.cons (.int .u64) (.cons (.int .u64) (.cons (.int .i64) (.cons .bool (.cons (.int .u64) (.cons (.sl 2) (.cons .bool (.cons (.int .i64) (.int .i64)))))))))))), (.arrS 2 75 2)] })]
noncomputable def f19j18B (a1 : Int) (a2 : Int) (a3 : Int) (a4 : List Int) (a5 : Int) (a6 : Int) (a7 : Int) (a8 : Int) (a9 : Bool) (a10 : Int) (a11 : List PD) (a12 : Bool) (a13 : Int) (a14 : Int) (a15 : Int) (a16 : List Int) (a17 : Int) (a18 : Int) (a19 : Int) (a20 : Int) (a21 : Bool) (a22 : Int) (a23 : List PD) (a24 : Bool) (a25 : Int) (a26 : Int) (a27 : List PD) : Option ((Int × Int × Unit × Unit × Unit) × ((List Int × Int × Int × Int × Int × Bool × Int × List PD × Bool × Int × Int) × (List Int × Int × Int × Int × Int × Bool × Int × List PD × Bool × Int × Int) × List PD)) :=
  Option.bind (f34 a3 a27 [(PD.agg [(.int .i64 a15), (.int .i64 a1)])]) fun y1 =>
  some ((a1, a2, (), (), ()), ((a4, a5, a6, a7, a8, a9, a10, a11, a12, a13, a14), (a16, a17, a18, a19, a20, a21, a22, a23, a24, a25, a26), y1.2.2.2))
noncomputable def f19j18 : ((Int × Int × Unit × Unit × Unit × Int × Unit) × ((List Int × Int × Int × Int × Int × Bool × Int × List PD × Bool × Int × Int) × Int × (List Int × Int × Int × Int × Int × Bool × Int × List PD × Bool × Int × Int) × List PD)) → Option ((Int × Int × Unit × Unit × Unit) × ((List Int × Int × Int × Int × Int × Bool × Int × List PD × Bool × Int × Int) × (List Int × Int × Int × Int × Int × Bool × Int × List PD × Bool × Int × Int) × List PD)) := fun s => f19j18B s.1.1 s.1.2.1 s.1.2.2.2.2.2.1 s.2.1.1 s.2.1.2.1 s.2.1.2.2.1 s.2.1.2.2.2.1 s.2.1.2.2.2.2.1 s.2.1.2.2.2.2.2.1 s.2.1.2.2.2.2.2.2.1 s.2.1.2.2.2.2.2.2.2.1 s.2.1.2.2.2.2.2.2.2.2.1 s.2.1.2.2.2.2.2.2.2.2.2.1 s.2.1.2.2.2.2.2.2.2.2.2.2 s.2.2.1 s.2.2.2.1.1 s.2.2.2.1.2.1 s.2.2.2.1.2.2.1 s.2.2.2.1.2.2.2.1 s.2.2.2.1.2.2.2.2.1 s.2.2.2.1.2.2.2.2.2.1 s.2.2.2.1.2.2.2.2.2.2.1 s.2.2.2.1.2.2.2.2.2.2.2.1 s.2.2.2.1.2.2.2.2.2.2.2.2.1 s.2.2.2.1.2.2.2.2.2.2.2.2.2.1 s.2.2.2.1.2.2.2.2.2.2.2.2.2.2 s.2.2.2.2
noncomputable def f19j12p : SP := { n := 104, ix := [1, 3, 4, 6, 8, 10, 11], p := (.cons (.int .i64) (.cons (.int .i64) (.cons (.ptr 0 0) (.cons (.ptr 1 0) (.cons (.ptr 2 0) (.cons (.int .i64) .bool)))))), hp := [(.cells (.cons (.nums .u8) (.cons (.int .i64) (.cons (.int .u64) (.cons (.int .u64) (.cons (.int .i64) (.cons .bool (.cons (.int .u64) (.cons (.sl 2) (.cons .bool (.cons (.int .i64) (.int .i64)))))))))))), (.cells (.int .i64)), (.cells (.cons (.nums .u8) (.cons (.int .i64) (.cons (.int .u64) (.cons (.int .u64) (.cons (.int .i64) (.cons .bool (.cons (.int .u64) (.cons (.sl 2) (.cons .bool (.cons (.int .i64) (.int .i64))))))))))))] }
noncomputable def f19j12x : List (Ex × SP) := [(.ret, { n := 104, ix := [8, 9], p := (.cons (.ptr 0 0) (.int .i64)), hp := [(.cells (.cons (.nums .u8) (.cons (.int .i64) (.cons (.int .u64) (.cons (.int .u64) (.cons (.int .i64) (.cons .bool (.cons (.int .u64) (.cons (.ref 1) (.cons .bool (.cons (.int .i64) (.int .i64)))))))))))), (.arrS 2 75 2)] })]
noncomputable def f19j12B (a1 : Int) (a2 : Int) (a3 : Int) (a4 : Bool) (a5 : List Int) (a6 : Int) (a7 : Int) (a8 : Int) (a9 : Int) (a10 : Bool) (a11 : Int) (a12 : List PD) (a13 : Bool) (a14 : Int) (a15 : Int) (a16 : Int) (a17 : List Int) (a18 : Int) (a19 : Int) (a20 : Int) (a21 : Int) (a22 : Bool) (a23 : Int) (a24 : List PD) (a25 : Bool) (a26 : Int) (a27 : Int) : Option ((Unit × Int) × ((List Int × Int × Int × Int × Int × Bool × Int × Unit × Bool × Int × Int) × List PD)) :=
  Option.bind (f32 a12) fun y1 =>
  cond a4 (
    cond (inRange a3 (y1.2.length)) (
      Option.bind (y1.2[(Int.toNat a3)]?) fun y2 =>
      Option.bind (PD.intAt .i64 y2 0) fun y3 =>
      Option.bind (PD.intAt .i64 y2 1) fun y4 =>
      Option.bind (f19j19 ((a1, a2, (), (), ()), ((a5, a6, a7, a8, a9, a10, a11, a12, a13, a14, a15), (a17, a18, a19, a20, a21, a22, a23, a24, a25, a26, a27), (y1.2.set (Int.toNat a3) (.agg [(.int .i64 y3), (.int .i64 a1)]))))) fun y5 =>
      some (((), y5.1.2), ((y5.2.1.1, y5.2.1.2.1, y5.2.1.2.2.1, y5.2.1.2.2.2.1, y5.2.1.2.2.2.2.1, y5.2.1.2.2.2.2.2.1, y5.2.1.2.2.2.2.2.2.1, (), y5.2.1.2.2.2.2.2.2.2.2.1, y5.2.1.2.2.2.2.2.2.2.2.2.1, y5.2.1.2.2.2.2.2.2.2.2.2.2), y5.2.2))) none) (
    Option.bind (f30a y1.2 a16) fun y6 =>
    cond (decide (y6.1 < 0)) (
      Option.bind (f19j18 ((a1, a2, (), (), (), (((y1.2.length) : Nat) : Int), ()), ((a5, a6, a7, a8, a9, a10, a11, a12, a13, a14, a15), y6.2, (a17, a18, a19, a20, a21, a22, a23, a24, a25, a26, a27), y1.2))) fun y7 =>
      Option.bind (f19j19 ((y7.1.1, y7.1.2.1, (), (), ()), ((y7.2.1.1, y7.2.1.2.1, y7.2.1.2.2.1, y7.2.1.2.2.2.1, y7.2.1.2.2.2.2.1, y7.2.1.2.2.2.2.2.1, y7.2.1.2.2.2.2.2.2.1, y7.2.1.2.2.2.2.2.2.2.1, y7.2.1.2.2.2.2.2.2.2.2.1, y7.2.1.2.2.2.2.2.2.2.2.2.1, y7.2.1.2.2.2.2.2.2.2.2.2.2), (y7.2.2.1.1, y7.2.2.1.2.1, y7.2.2.1.2.2.1, y7.2.2.1.2.2.2.1, y7.2.2.1.2.2.2.2.1, y7.2.2.1.2.2.2.2.2.1, y7.2.2.1.2.2.2.2.2.2.1, y7.2.2.1.2.2.2.2.2.2.2.1, y7.2.2.1.2.2.2.2.2.2.2.2.1, y7.2.2.1.2.2.2.2.2.2.2.2.2.1, y7.2.2.1.2.2.2.2.2.2.2.2.2.2), y7.2.2.2))) fun y8 =>
      some (((), y8.1.2), ((y8.2.1.1, y8.2.1.2.1, y8.2.1.2.2.1, y8.2.1.2.2.2.1, y8.2.1.2.2.2.2.1, y8.2.1.2.2.2.2.2.1, y8.2.1.2.2.2.2.2.2.1, (), y8.2.1.2.2.2.2.2.2.2.2.1, y8.2.1.2.2.2.2.2.2.2.2.2.1, y8.2.1.2.2.2.2.2.2.2.2.2.2), y8.2.2))) (
      Option.bind (f19j18 ((a1, a2, (), (), (), y6.1, ()), ((a5, a6, a7, a8, a9, a10, a11, a12, a13, a14, a15), y6.2, (a17, a18, a19, a20, a21, a22, a23, a24, a25, a26, a27), y1.2))) fun y9 =>
      Option.bind (f19j19 ((y9.1.1, y9.1.2.1, (), (), ()), ((y9.2.1.1, y9.2.1.2.1, y9.2.1.2.2.1, y9.2.1.2.2.2.1, y9.2.1.2.2.2.2.1, y9.2.1.2.2.2.2.2.1, y9.2.1.2.2.2.2.2.2.1, y9.2.1.2.2.2.2.2.2.2.1, y9.2.1.2.2.2.2.2.2.2.2.1, y9.2.1.2.2.2.2.2.2.2.2.2.1, y9.2.1.2.2.2.2.2.2.2.2.2.2), (y9.2.2.1.1, y9.2.2.1.2.1, y9.2.2.1.2.2.1, y9.2.2.1.2.2.2.1, y9.2.2.1.2.2.2.2.1, y9.2.2.1.2.2.2.2.2.1, y9.2.2.1.2.2.2.2.2.2.1, y9.2.2.1.2.2.2.2.2.2.2.1, y9.2.2.1.2.2.2.2.2.2.2.2.1, y9.2.2.1.2.2.2.2.2.2.2.2.2.1, y9.2.2.1.2.2.2.2.2.2.2.2.2.2), y9.2.2.2))) fun y10 =>
      some (((), y10.1.2), ((y10.2.1.1, y10.2.1.2.1, y10.2.1.2.2.1, y10.2.1.2.2.2.1, y10.2.1.2.2.2.2.1, y10.2.1.2.2.2.2.2.1, y10.2.1.2.2.2.2.2.2.1, (), y10.2.1.2.2.2.2.2.2.2.2.1, y10.2.1.2.2.2.2.2.2.2.2.2.1, y10.2.1.2.2.2.2.2.2.2.2.2.2), y10.2.2))))
noncomputable def f19j12 : ((Int × Int × Unit × Unit × Unit × Int × Bool) × ((List Int × Int × Int × Int × Int × Bool × Int × List PD × Bool × Int × Int) × Int × (List Int × Int × Int × Int × Int × Bool × Int × List PD × Bool × Int × Int))) → Option ((Unit × Int) × ((List Int × Int × Int × Int × Int × Bool × Int × Unit × Bool × Int × Int) × List PD)) := fun s => f19j12B s.1.1 s.1.2.1 s.1.2.2.2.2.2.1 s.1.2.2.2.2.2.2 s.2.1.1 s.2.1.2.1 s.2.1.2.2.1 s.2.1.2.2.2.1 s.2.1.2.2.2.2.1 s.2.1.2.2.2.2.2.1 s.2.1.2.2.2.2.2.2.1 s.2.1.2.2.2.2.2.2.2.1 s.2.1.2.2.2.2.2.2.2.2.1 s.2.1.2.2.2.2.2.2.2.2.2.1 s.2.1.2.2.2.2.2.2.2.2.2.2 s.2.2.1 s.2.2.2.1 s.2.2.2.2.1 s.2.2.2.2.2.1 s.2.2.2.2.2.2.1 s.2.2.2.2.2.2.2.1 s.2.2.2.2.2.2.2.2.1 s.2.2.2.2.2.2.2.2.2.1 s.2.2.2.2.2.2.2.2.2.2.1 s.2.2.2.2.2.2.2.2.2.2.2.1 s.2.2.2.2.2.2.2.2.2.2.2.2.1 s.2.2.2.2.2.2.2.2.2.2.2.2.2
noncomputable def f19j3p : SP := { n := 104, ix := [1, 3, 4, 6, 8], p := (.cons (.int .i64) (.cons (.int .i64) (.cons (.ptr 0 0) (.cons (.ptr 1 0) (.ptr 2 0))))), hp := [(.cells (.cons (.nums .u8) (.cons (.int .i64) (.cons (.int .u64) (.cons (.int .u64) (.cons (.int .i64) (.cons .bool (.cons (.int .u64) (.cons (.sl 2) (.cons .bool (.cons (.int .i64) (.int .i64)))))))))))), (.cells (.int .i64)), (.cells (.cons (.nums .u8) (.cons (.int .i64) (.cons (.int .u64) (.cons (.int .u64) (.cons (.int .i64) (.cons .bool (.cons (.int .u64) (.cons (.sl 2) (.cons .bool (.cons (.int .i64) (.int .i64))))))))))))] }
noncomputable def f19j3x : List (Ex × SP) := [(.ret, { n := 104, ix := [8, 9], p := (.cons (.ptr 0 0) (.int .i64)), hp := [(.cells (.cons (.nums .u8) (.cons (.int .i64) (.cons (.int .u64) (.cons (.int .u64) (.cons (.int .i64) (.cons .bool (.cons (.int .u64) (.cons (.sl 2) (.cons .bool (.cons (.int .i64) (.int .i64))))))))))))] })]
noncomputable def f19j3B (a1 : Int) (a2 : Int) (a3 : List Int) (a4 : Int) (a5 : Int) (a6 : Int) (a7 : Int) (a8 : Bool) (a9 : Int) (a10 : List PD) (a11 : Bool) (a12 : Int) (a13 : Int) (a14 : Int) (a15 : List Int) (a16 : Int) (a17 : Int) (a18 : Int) (a19 : Int) (a20 : Bool) (a21 : Int) (a22 : List PD) (a23 : Bool) (a24 : Int) (a25 : Int) : Option ((Unit × Int) × (List Int × Int × Int × Int × Int × Bool × Int × List PD × Bool × Int × Int)) :=
  cond a11 (
    some (((), 39), (a3, a4, a5, a6, a7, a8, a9, a10, a11, a12, a13))) (
    cond (decide (0 ≤ a1)) (
      cond ((bitsI .and .u64 (shrI .u64 a9 a1) 1) == 1) (
        some (((), 37), (a3, a4, a5, a6, a7, a8, a9, a10, true, a12, a13))) (
        Option.bind (f30 a10 a14) fun y1 =>
        cond (decide (y1.1 ≥ 0)) (
          Option.bind (getI a10 y1.1) fun y2 =>
          Option.bind (PD.intAt .i64 y2 1) fun y3 =>
          cond (decide (y3 ≥ a1)) (
            some (((), 37), (a3, a4, a5, a6, a7, a8, a9, a10, a11, a12, a13))) (
            Option.bind (f19j12 ((a1, a2, (), (), (), y1.1, (decide (y1.1 ≥ 0))), ((a3, a4, a5, a6, a7, a8, a9, a10, a11, a12, a13), y1.2, (a15, a16, a17, a18, a19, a20, a21, a22, a23, a24, a25)))) fun y4 =>
            some (((), y4.1.2), (y4.2.1.1, y4.2.1.2.1, y4.2.1.2.2.1, y4.2.1.2.2.2.1, y4.2.1.2.2.2.2.1, y4.2.1.2.2.2.2.2.1, y4.2.1.2.2.2.2.2.2.1, y4.2.2, y4.2.1.2.2.2.2.2.2.2.2.1, y4.2.1.2.2.2.2.2.2.2.2.2.1, y4.2.1.2.2.2.2.2.2.2.2.2.2)))) (
          Option.bind (f19j12 ((a1, a2, (), (), (), y1.1, (decide (y1.1 ≥ 0))), ((a3, a4, a5, a6, a7, a8, a9, a10, a11, a12, a13), y1.2, (a15, a16, a17, a18, a19, a20, a21, a22, a23, a24, a25)))) fun y5 =>
          some (((), y5.1.2), (y5.2.1.1, y5.2.1.2.1, y5.2.1.2.2.1, y5.2.1.2.2.2.1, y5.2.1.2.2.2.2.1, y5.2.1.2.2.2.2.2.1, y5.2.1.2.2.2.2.2.2.1, y5.2.2, y5.2.1.2.2.2.2.2.2.2.2.1, y5.2.1.2.2.2.2.2.2.2.2.2.1, y5.2.1.2.2.2.2.2.2.2.2.2.2))))) none)
noncomputable def f19j3 : ((Int × Int × Unit × Unit × Unit) × ((List Int × Int × Int × Int × Int × Bool × Int × List PD × Bool × Int × Int) × Int × (List Int × Int × Int × Int × Int × Bool × Int × List PD × Bool × Int × Int))) → Option ((Unit × Int) × (List Int × Int × Int × Int × Int × Bool × Int × List PD × Bool × Int × Int)) := fun s => f19j3B s.1.1 s.1.2.1 s.2.1.1 s.2.1.2.1 s.2.1.2.2.1 s.2.1.2.2.2.1 s.2.1.2.2.2.2.1 s.2.1.2.2.2.2.2.1 s.2.1.2.2.2.2.2.2.1 s.2.1.2.2.2.2.2.2.2.1 s.2.1.2.2.2.2.2.2.2.2.1 s.2.1.2.2.2.2.2.2.2.2.2.1 s.2.1.2.2.2.2.2.2.2.2.2.2 s.2.2.1 s.2.2.2.1 s.2.2.2.2.1 s.2.2.2.2.2.1 s.2.2.2.2.2.2.1 s.2.2.2.2.2.2.2.1 s.2.2.2.2.2.2.2.2.1 s.2.2.2.2.2.2.2.2.2.1 s.2.2.2.2.2.2.2.2.2.2.1 s.2.2.2.2.2.2.2.2.2.2.2.1 s.2.2.2.2.2.2.2.2.2.2.2.2.1 s.2.2.2.2.2.2.2.2.2.2.2.2.2
noncomputable def f19 (a1 : List Int) (a2 : Int) (a3 : Int) (a4 : Int) (a5 : Int) (a6 : Bool) (a7 : Int) (a8 : List PD) (a9 : Bool) (a10 : Int) (a11 : Int) (a12 : Int) (a13 : Int) (a14 : Int) : Option ((List Int × Int × Int × Int × Int × Bool × Int × List PD × Bool × Int × Int) × Int) :=
  cond (decide (a2 < 0)) (
    some ((a1, a2, a3, a4, a5, a6, a7, a8, a9, a10, a11), 9)) (
    cond (decide (a2 > 4)) (
      some ((a1, a2, a3, a4, a5, a6, a7, a8, a9, a10, a11), 9)) (
      cond (decide (a13 < 0)) (
        some ((a1, a2, a3, a4, a5, a6, a7, a8, a9, a10, a11), 9)) (
        cond (decide (a12 < a13)) (
          some ((a1, a2, a3, a4, a5, a6, a7, a8, a9, a10, a11), 9)) (
          cond (decide (0 ≤ a2)) (
            cond (decide (a12 ≥ (shlI .i64 1 a2))) (
              some ((a1, a2, a3, a4, a5, a6, a7, a8, a9, a10, a11), 9)) (
              Option.bind (f19j3 ((a12, a14, (), (), ()), ((a1, a2, a3, a4, a5, a6, a7, a8, a9, a10, a11), a13, ([], 0, 0, 0, 0, false, 0, [], false, 0, 0)))) fun y1 =>
              some ((y1.2.1, y1.2.2.1, y1.2.2.2.1, y1.2.2.2.2.1, y1.2.2.2.2.2.1, y1.2.2.2.2.2.2.1, y1.2.2.2.2.2.2.2.1, y1.2.2.2.2.2.2.2.2.1, y1.2.2.2.2.2.2.2.2.2.1, y1.2.2.2.2.2.2.2.2.2.2.1, y1.2.2.2.2.2.2.2.2.2.2.2), y1.1.2))) none))))
noncomputable def f19C : Cal := tbl [(30, (altE (.cons (.sl 2) (.clo 31 .nil (.ptr 0 0))) [(.cells (.int .i64))] (.int .i64) [(.cells (.int .i64))] f30W (ent (.cons (.sl 2) (.clo 33 .nil (.ptr 0 0))) [(.cells (.int .i64))] (.int .i64) [(.cells (.int .i64))] f30aW))), (32, (ent (.sl 2) [] (.ref 0) [(.arrS 2 75 2)] f32W)), (34, (ent (.cons (.ref 0) (.cons (.int .i64) (.ref 1))) [(.arrS 2 75 2), (.arrS 2 75 2)] (.ref 2) [.dead, .dead, (.arrS 2 75 2)] f34W))]
theorem f19C_ok : CalOK Try.prog f19C ∧ CalNt f19C := tbl_ok (by
  intro p hp
  simp only [List.mem_cons, List.not_mem_nil, or_false] at hp
  rcases hp with rfl | rfl | rfl
  · exact (altE_ok f30_ok f30a_ok)
  · exact f32_ok
  · exact f34_ok)
noncomputable def f19F : FH := { join := [(19, { keep := [1, 3, 4, 8, 12] }), (18, { keep := [1, 3, 4, 6, 8, 10, 12] }), (12, { keep := [1, 3, 4, 6, 8, 10, 11] }), (3, { keep := [1, 3, 4, 6, 8] })], ops := [(15, [(2, .borrow)]), (18, [(6, (.inout [0, 2]))])] }
theorem f19j19_s (a1 : Int) (a2 : Int) (a3 : List Int) (a4 : Int) (a5 : Int) (a6 : Int) (a7 : Int) (a8 : Bool) (a9 : Int) (a10 : List PD) (a11 : Bool) (a12 : Int) (a13 : Int) (a14 : List Int) (a15 : Int) (a16 : Int) (a17 : Int) (a18 : Int) (a19 : Bool) (a20 : Int) (a21 : List PD) (a22 : Bool) (a23 : Int) (a24 : Int) (a25 : List PD) : joinC Try.prog f19C f19F [] [] 0 ((joinsAt 19 (codeOf Try.f19)).headD .skip) f19j19p f19j19x { keep := [8, 9] } ((a1, a2, (), (), ()), ((a3, a4, a5, a6, a7, a8, a9, a10, a11, a12, a13), (a14, a15, a16, a17, a18, a19, a20, a21, a22, a23, a24), a25)) _ some = f19j19 ((a1, a2, (), (), ()), ((a3, a4, a5, a6, a7, a8, a9, a10, a11, a12, a13), (a14, a15, a16, a17, a18, a19, a20, a21, a22, a23, a24), a25)) := by kernel_rfl
theorem f19j19_t : ToldC Try.prog 0 (codeOf Try.f19) [] ((19, toldJ f19j19p f19j19x f19j19) :: []) :=
  ToldC.join f19F 0 (ToldC.nil 0) f19C_ok 19 ((joinsAt 19 (codeOf Try.f19)).headD .skip) (by kernel_rfl) (p := f19j19p) (px := f19j19x) (g := f19j19) (ho := { keep := [8, 9] }) fun (x : ((Int × Int × Unit × Unit × Unit) × ((List Int × Int × Int × Int × Int × Bool × Int × List PD × Bool × Int × Int) × (List Int × Int × Int × Int × Int × Bool × Int × List PD × Bool × Int × Int) × List PD))) => f19j19_s x.1.1 x.1.2.1 x.2.1.1 x.2.1.2.1 x.2.1.2.2.1 x.2.1.2.2.2.1 x.2.1.2.2.2.2.1 x.2.1.2.2.2.2.2.1 x.2.1.2.2.2.2.2.2.1 x.2.1.2.2.2.2.2.2.2.1 x.2.1.2.2.2.2.2.2.2.2.1 x.2.1.2.2.2.2.2.2.2.2.2.1 x.2.1.2.2.2.2.2.2.2.2.2.2 x.2.2.1.1 x.2.2.1.2.1 x.2.2.1.2.2.1 x.2.2.1.2.2.2.1 x.2.2.1.2.2.2.2.1 x.2.2.1.2.2.2.2.2.1 x.2.2.1.2.2.2.2.2.2.1 x.2.2.1.2.2.2.2.2.2.2.1 x.2.2.1.2.2.2.2.2.2.2.2.1 x.2.2.1.2.2.2.2.2.2.2.2.2.1 x.2.2.1.2.2.2.2.2.2.2.2.2.2 x.2.2.2
theorem f19j18_s (a1 : Int) (a2 : Int) (a3 : Int) (a4 : List Int) (a5 : Int) (a6 : Int) (a7 : Int) (a8 : Int) (a9 : Bool) (a10 : Int) (a11 : List PD) (a12 : Bool) (a13 : Int) (a14 : Int) (a15 : Int) (a16 : List Int) (a17 : Int) (a18 : Int) (a19 : Int) (a20 : Int) (a21 : Bool) (a22 : Int) (a23 : List PD) (a24 : Bool) (a25 : Int) (a26 : Int) (a27 : List PD) : joinC Try.prog f19C f19F [] ((19, toldJ f19j19p f19j19x f19j19) :: []) 0 ((joinsAt 18 (codeOf Try.f19)).headD .skip) f19j18p f19j18x { keep := [1, 3, 4, 8, 9, 12] } ((a1, a2, (), (), (), a3, ()), ((a4, a5, a6, a7, a8, a9, a10, a11, a12, a13, a14), a15, (a16, a17, a18, a19, a20, a21, a22, a23, a24, a25, a26), a27)) _ some = f19j18 ((a1, a2, (), (), (), a3, ()), ((a4, a5, a6, a7, a8, a9, a10, a11, a12, a13, a14), a15, (a16, a17, a18, a19, a20, a21, a22, a23, a24, a25, a26), a27)) := by kernel_rfl
theorem f19j18_t : ToldC Try.prog 0 (codeOf Try.f19) [] ((18, toldJ f19j18p f19j18x f19j18) :: ((19, toldJ f19j19p f19j19x f19j19) :: [])) :=
  ToldC.join f19F 0 f19j19_t f19C_ok 18 ((joinsAt 18 (codeOf Try.f19)).headD .skip) (by kernel_rfl) (p := f19j18p) (px := f19j18x) (g := f19j18) (ho := { keep := [1, 3, 4, 8, 9, 12] }) fun (x : ((Int × Int × Unit × Unit × Unit × Int × Unit) × ((List Int × Int × Int × Int × Int × Bool × Int × List PD × Bool × Int × Int) × Int × (List Int × Int × Int × Int × Int × Bool × Int × List PD × Bool × Int × Int) × List PD))) => f19j18_s x.1.1 x.1.2.1 x.1.2.2.2.2.2.1 x.2.1.1 x.2.1.2.1 x.2.1.2.2.1 x.2.1.2.2.2.1 x.2.1.2.2.2.2.1 x.2.1.2.2.2.2.2.1 x.2.1.2.2.2.2.2.2.1 x.2.1.2.2.2.2.2.2.2.1 x.2.1.2.2.2.2.2.2.2.2.1 x.2.1.2.2.2.2.2.2.2.2.2.1 x.2.1.2.2.2.2.2.2.2.2.2.2 x.2.2.1 x.2.2.2.1.1 x.2.2.2.1.2.1 x.2.2.2.1.2.2.1 x.2.2.2.1.2.2.2.1 x.2.2.2.1.2.2.2.2.1 x.2.2.2.1.2.2.2.2.2.1 x.2.2.2.1.2.2.2.2.2.2.1 x.2.2.2.1.2.2.2.2.2.2.2.1 x.2.2.2.1.2.2.2.2.2.2.2.2.1 x.2.2.2.1.2.2.2.2.2.2.2.2.2.1 x.2.2.2.1.2.2.2.2.2.2.2.2.2.2 x.2.2.2.2
theorem f19j12_s (a1 : Int) (a2 : Int) (a3 : Int) (a4 : Bool) (a5 : List Int) (a6 : Int) (a7 : Int) (a8 : Int) (a9 : Int) (a10 : Bool) (a11 : Int) (a12 : List PD) (a13 : Bool) (a14 : Int) (a15 : Int) (a16 : Int) (a17 : List Int) (a18 : Int) (a19 : Int) (a20 : Int) (a21 : Int) (a22 : Bool) (a23 : Int) (a24 : List PD) (a25 : Bool) (a26 : Int) (a27 : Int) : joinC Try.prog f19C f19F [] ((18, toldJ f19j18p f19j18x f19j18) :: ((19, toldJ f19j19p f19j19x f19j19) :: [])) 0 ((joinsAt 12 (codeOf Try.f19)).headD .skip) f19j12p f19j12x { keep := [8, 9] } ((a1, a2, (), (), (), a3, a4), ((a5, a6, a7, a8, a9, a10, a11, a12, a13, a14, a15), a16, (a17, a18, a19, a20, a21, a22, a23, a24, a25, a26, a27))) _ some = f19j12 ((a1, a2, (), (), (), a3, a4), ((a5, a6, a7, a8, a9, a10, a11, a12, a13, a14, a15), a16, (a17, a18, a19, a20, a21, a22, a23, a24, a25, a26, a27))) := by kernel_rfl
theorem f19j12_t : ToldC Try.prog 0 (codeOf Try.f19) [] ((12, toldJ f19j12p f19j12x f19j12) :: ((18, toldJ f19j18p f19j18x f19j18) :: ((19, toldJ f19j19p f19j19x f19j19) :: []))) :=
  ToldC.join f19F 0 f19j18_t f19C_ok 12 ((joinsAt 12 (codeOf Try.f19)).headD .skip) (by kernel_rfl) (p := f19j12p) (px := f19j12x) (g := f19j12) (ho := { keep := [8, 9] }) fun (x : ((Int × Int × Unit × Unit × Unit × Int × Bool) × ((List Int × Int × Int × Int × Int × Bool × Int × List PD × Bool × Int × Int) × Int × (List Int × Int × Int × Int × Int × Bool × Int × List PD × Bool × Int × Int)))) => f19j12_s x.1.1 x.1.2.1 x.1.2.2.2.2.2.1 x.1.2.2.2.2.2.2 x.2.1.1 x.2.1.2.1 x.2.1.2.2.1 x.2.1.2.2.2.1 x.2.1.2.2.2.2.1 x.2.1.2.2.2.2.2.1 x.2.1.2.2.2.2.2.2.1 x.2.1.2.2.2.2.2.2.2.1 x.2.1.2.2.2.2.2.2.2.2.1 x.2.1.2.2.2.2.2.2.2.2.2.1 x.2.1.2.2.2.2.2.2.2.2.2.2 x.2.2.1 x.2.2.2.1 x.2.2.2.2.1 x.2.2.2.2.2.1 x.2.2.2.2.2.2.1 x.2.2.2.2.2.2.2.1 x.2.2.2.2.2.2.2.2.1 x.2.2.2.2.2.2.2.2.2.1 x.2.2.2.2.2.2.2.2.2.2.1 x.2.2.2.2.2.2.2.2.2.2.2.1 x.2.2.2.2.2.2.2.2.2.2.2.2.1 x.2.2.2.2.2.2.2.2.2.2.2.2.2
theorem f19j3_s (a1 : Int) (a2 : Int) (a3 : List Int) (a4 : Int) (a5 : Int) (a6 : Int) (a7 : Int) (a8 : Bool) (a9 : Int) (a10 : List PD) (a11 : Bool) (a12 : Int) (a13 : Int) (a14 : Int) (a15 : List Int) (a16 : Int) (a17 : Int) (a18 : Int) (a19 : Int) (a20 : Bool) (a21 : Int) (a22 : List PD) (a23 : Bool) (a24 : Int) (a25 : Int) : joinC Try.prog f19C f19F [] ((12, toldJ f19j12p f19j12x f19j12) :: ((18, toldJ f19j18p f19j18x f19j18) :: ((19, toldJ f19j19p f19j19x f19j19) :: []))) 0 ((joinsAt 3 (codeOf Try.f19)).headD .skip) f19j3p f19j3x { keep := [8, 9], fzC := [(8, 7)] } ((a1, a2, (), (), ()), ((a3, a4, a5, a6, a7, a8, a9, a10, a11, a12, a13), a14, (a15, a16, a17, a18, a19, a20, a21, a22, a23, a24, a25))) _ some = f19j3 ((a1, a2, (), (), ()), ((a3, a4, a5, a6, a7, a8, a9, a10, a11, a12, a13), a14, (a15, a16, a17, a18, a19, a20, a21, a22, a23, a24, a25))) := by kernel_rfl
theorem f19j3_t : ToldC Try.prog 0 (codeOf Try.f19) [] ((3, toldJ f19j3p f19j3x f19j3) :: ((12, toldJ f19j12p f19j12x f19j12) :: ((18, toldJ f19j18p f19j18x f19j18) :: ((19, toldJ f19j19p f19j19x f19j19) :: [])))) :=
  ToldC.join f19F 0 f19j12_t f19C_ok 3 ((joinsAt 3 (codeOf Try.f19)).headD .skip) (by kernel_rfl) (p := f19j3p) (px := f19j3x) (g := f19j3) (ho := { keep := [8, 9], fzC := [(8, 7)] }) fun (x : ((Int × Int × Unit × Unit × Unit) × ((List Int × Int × Int × Int × Int × Bool × Int × List PD × Bool × Int × Int) × Int × (List Int × Int × Int × Int × Int × Bool × Int × List PD × Bool × Int × Int)))) => f19j3_s x.1.1 x.1.2.1 x.2.1.1 x.2.1.2.1 x.2.1.2.2.1 x.2.1.2.2.2.1 x.2.1.2.2.2.2.1 x.2.1.2.2.2.2.2.1 x.2.1.2.2.2.2.2.2.1 x.2.1.2.2.2.2.2.2.2.1 x.2.1.2.2.2.2.2.2.2.2.1 x.2.1.2.2.2.2.2.2.2.2.2.1 x.2.1.2.2.2.2.2.2.2.2.2.2 x.2.2.1 x.2.2.2.1 x.2.2.2.2.1 x.2.2.2.2.2.1 x.2.2.2.2.2.2.1 x.2.2.2.2.2.2.2.1 x.2.2.2.2.2.2.2.2.1 x.2.2.2.2.2.2.2.2.2.1 x.2.2.2.2.2.2.2.2.2.2.1 x.2.2.2.2.2.2.2.2.2.2.2.1 x.2.2.2.2.2.2.2.2.2.2.2.2.1 x.2.2.2.2.2.2.2.2.2.2.2.2.2
theorem f19_b (a1 : List Int) (a2 : Int) (a3 : Int) (a4 : Int) (a5 : Int) (a6 : Bool) (a7 : Int) (a8 : List PD) (a9 : Bool) (a10 : Int) (a11 : Int) (a12 : Int) (a13 : Int) (a14 : Int) : bodyC Try.prog f19C f19F [] ((3, toldJ f19j3p f19j3x f19j3) :: ((12, toldJ f19j12p f19j12x f19j12) :: ((18, toldJ f19j18p f19j18x f19j18) :: ((19, toldJ f19j19p f19j19x f19j19) :: [])))) { keep := [] } 19 (.cons (.agg (.cons (.nums .u8) (.cons (.int .i64) (.cons (.int .u64) (.cons (.int .u64) (.cons (.int .i64) (.cons .bool (.cons (.int .u64) (.cons (.sl 2) (.cons .bool (.cons (.int .i64) (.int .i64)))))))))))) (.cons (.int .i64) (.cons (.int .i64) (.int .i64)))) [] (.tup (.cons (.agg (.cons (.nums .u8) (.cons (.int .i64) (.cons (.int .u64) (.cons (.int .u64) (.cons (.int .i64) (.cons .bool (.cons (.int .u64) (.cons (.sl 2) (.cons .bool (.cons (.int .i64) (.int .i64)))))))))))) (.int .i64))) [] ((a1, a2, a3, a4, a5, a6, a7, a8, a9, a10, a11), a12, a13, a14) _ some = f19 a1 a2 a3 a4 a5 a6 a7 a8 a9 a10 a11 a12 a13 a14 := by kernel_rfl
noncomputable def f19W (x : TyA (.cons (.agg (.cons (.nums .u8) (.cons (.int .i64) (.cons (.int .u64) (.cons (.int .u64) (.cons (.int .i64) (.cons .bool (.cons (.int .u64) (.cons (.sl 2) (.cons .bool (.cons (.int .i64) (.int .i64)))))))))))) (.cons (.int .i64) (.cons (.int .i64) (.int .i64)))) []) : Option (TyR (.tup (.cons (.agg (.cons (.nums .u8) (.cons (.int .i64) (.cons (.int .u64) (.cons (.int .u64) (.cons (.int .i64) (.cons .bool (.cons (.int .u64) (.cons (.sl 2) (.cons .bool (.cons (.int .i64) (.int .i64)))))))))))) (.int .i64))) []) := f19 x.1.1 x.1.2.1 x.1.2.2.1 x.1.2.2.2.1 x.1.2.2.2.2.1 x.1.2.2.2.2.2.1 x.1.2.2.2.2.2.2.1 x.1.2.2.2.2.2.2.2.1 x.1.2.2.2.2.2.2.2.2.1 x.1.2.2.2.2.2.2.2.2.2.1 x.1.2.2.2.2.2.2.2.2.2.2 x.2.1 x.2.2.1 x.2.2.2
theorem f19_ok : EntOK Try.prog 19 (ent (.cons (.agg (.cons (.nums .u8) (.cons (.int .i64) (.cons (.int .u64) (.cons (.int .u64) (.cons (.int .i64) (.cons .bool (.cons (.int .u64) (.cons (.sl 2) (.cons .bool (.cons (.int .i64) (.int .i64)))))))))))) (.cons (.int .i64) (.cons (.int .i64) (.int .i64)))) [] (.tup (.cons (.agg (.cons (.nums .u8) (.cons (.int .i64) (.cons (.int .u64) (.cons (.int .u64) (.cons (.int .i64) (.cons .bool (.cons (.int .u64) (.cons (.sl 2) (.cons .bool (.cons (.int .i64) (.int .i64)))))))))))) (.int .i64))) [] f19W) :=
  ent_ok f19F f19C_ok (hp := []) (fn := Try.f19) (by kernel_rfl) f19j3_t fun (x : ((List Int × Int × Int × Int × Int × Bool × Int × List PD × Bool × Int × Int) × Int × Int × Int)) => f19_b x.1.1 x.1.2.1 x.1.2.2.1 x.1.2.2.2.1 x.1.2.2.2.2.1 x.1.2.2.2.2.2.1 x.1.2.2.2.2.2.2.1 x.1.2.2.2.2.2.2.2.1 x.1.2.2.2.2.2.2.2.2.1 x.1.2.2.2.2.2.2.2.2.2.1 x.1.2.2.2.2.2.2.2.2.2.2 x.2.1 x.2.2.1 x.2.2.2

/-! f35: passkey/passkeyref29.within -/
noncomputable def f35 (a1 : Int) (a2 : Int) (a3 : Int) : Option Bool :=
  cond (decide (a1 ≥ a2)) (
    some (decide (a1 ≤ a3))) (
    some false)
noncomputable def f35C : Cal := tbl []
theorem f35C_ok : CalOK Try.prog f35C ∧ CalNt f35C := tbl_ok (by intro p hp; simp at hp)
noncomputable def f35F : FH := {}
theorem f35_b (a1 : Int) (a2 : Int) (a3 : Int) : bodyC Try.prog f35C f35F [] [] { keep := [] } 35 (.cons (.int .i64) (.cons (.int .i64) (.int .i64))) [] .bool [] (a1, a2, a3) _ some = f35 a1 a2 a3 := by kernel_rfl
noncomputable def f35W (x : TyA (.cons (.int .i64) (.cons (.int .i64) (.int .i64))) []) : Option (TyR .bool []) := f35 x.1 x.2.1 x.2.2
theorem f35_ok : EntOK Try.prog 35 (ent (.cons (.int .i64) (.cons (.int .i64) (.int .i64))) [] .bool [] f35W) :=
  ent_ok f35F f35C_ok (hp := []) (fn := Try.f35) (by kernel_rfl) (ToldC.nil 0) fun (x : (Int × Int × Int)) => f35_b x.1 x.2.1 x.2.2

/-! f20: passkey/passkeyref29.Accept -/
noncomputable def f20j22p : SP := { n := 114, ix := [1, 2, 3, 4, 8, 10, 11, 12, 13], p := (.cons (.int .i64) (.cons (.int .i64) (.cons (.int .i64) (.cons (.ptr 0 0) (.cons (.ptr 1 0) (.cons (.ref 2) (.cons .bool (.cons (.int .i64) (.ptr 3 0))))))))), hp := [(.cells (.cons (.nums .u8) (.cons (.int .i64) (.cons (.int .u64) (.cons (.int .u64) (.cons (.int .i64) (.cons .bool (.cons (.int .u64) (.cons (.sl 2) (.cons .bool (.cons (.int .i64) (.int .i64)))))))))))), (.cells (.cons (.nums .u8) (.cons (.int .i64) (.cons (.int .u64) (.cons (.int .u64) (.cons (.int .i64) (.cons .bool (.cons (.int .u64) (.cons (.sl 2) (.cons .bool (.cons (.int .i64) (.int .i64)))))))))))), (.arrS 2 75 2), (.cells (.cons (.int .i64) (.int .i64)))] }
noncomputable def f20j22x : List (Ex × SP) := [(.norm, { n := 114, ix := [1, 2, 3, 4, 8, 10, 11, 12], p := (.cons (.int .i64) (.cons (.int .i64) (.cons (.int .i64) (.cons (.ptr 0 0) (.cons (.ptr 1 0) (.cons (.ref 2) (.cons .bool (.int .i64)))))))), hp := [(.cells (.cons (.nums .u8) (.cons (.int .i64) (.cons (.int .u64) (.cons (.int .u64) (.cons (.int .i64) (.cons .bool (.cons (.int .u64) (.cons (.sl 2) (.cons .bool (.cons (.int .i64) (.int .i64)))))))))))), (.cells (.cons (.nums .u8) (.cons (.int .i64) (.cons (.int .u64) (.cons (.int .u64) (.cons (.int .i64) (.cons .bool (.cons (.int .u64) (.cons (.sl 2) (.cons .bool (.cons (.int .i64) (.int .i64)))))))))))), (.arrS 2 75 2)] })]
noncomputable def f20j22B (a1 : Int) (a2 : Int) (a3 : Int) (a4 : Bool) (a5 : Int) (a6 : List Int) (a7 : Int) (a8 : Int) (a9 : Int) (a10 : Int) (a11 : Bool) (a12 : Int) (a13 : List PD) (a14 : Bool) (a15 : Int) (a16 : Int) (a17 : List Int) (a18 : Int) (a19 : Int) (a20 : Int) (a21 : Int) (a22 : Bool) (a23 : Int) (a24 : List PD) (a25 : Bool) (a26 : Int) (a27 : Int) (a28 : List PD) (a29 : Int) (a30 : Int) : Option ((Int × Int × Int × Unit × Unit × Unit × Bool × Int) × ((List Int × Int × Int × Int × Int × Bool × Int × List PD × Bool × Int × Int) × (List Int × Int × Int × Int × Int × Bool × Int × List PD × Bool × Int × Int) × List PD)) :=
  cond (decide (((a28 ++ [(PD.agg [(.int .i64 a29), (.int .i64 a30)])]).length) * 16 ≤ 140737488355328)) (
    some ((a1, a2, a3, (), (), (), a4, a5), ((a6, a7, a8, a9, a10, a11, a12, a13, a14, a15, a16), (a17, a18, a19, a20, a21, a22, a23, a24, a25, a26, a27), (a28 ++ [(PD.agg [(.int .i64 a29), (.int .i64 a30)])])))) none
noncomputable def f20j22 : ((Int × Int × Int × Unit × Unit × Unit × Bool × Int × Unit) × ((List Int × Int × Int × Int × Int × Bool × Int × List PD × Bool × Int × Int) × (List Int × Int × Int × Int × Int × Bool × Int × List PD × Bool × Int × Int) × List PD × (Int × Int))) → Option ((Int × Int × Int × Unit × Unit × Unit × Bool × Int) × ((List Int × Int × Int × Int × Int × Bool × Int × List PD × Bool × Int × Int) × (List Int × Int × Int × Int × Int × Bool × Int × List PD × Bool × Int × Int) × List PD)) := fun s => f20j22B s.1.1 s.1.2.1 s.1.2.2.1 s.1.2.2.2.2.2.2.1 s.1.2.2.2.2.2.2.2.1 s.2.1.1 s.2.1.2.1 s.2.1.2.2.1 s.2.1.2.2.2.1 s.2.1.2.2.2.2.1 s.2.1.2.2.2.2.2.1 s.2.1.2.2.2.2.2.2.1 s.2.1.2.2.2.2.2.2.2.1 s.2.1.2.2.2.2.2.2.2.2.1 s.2.1.2.2.2.2.2.2.2.2.2.1 s.2.1.2.2.2.2.2.2.2.2.2.2 s.2.2.1.1 s.2.2.1.2.1 s.2.2.1.2.2.1 s.2.2.1.2.2.2.1 s.2.2.1.2.2.2.2.1 s.2.2.1.2.2.2.2.2.1 s.2.2.1.2.2.2.2.2.2.1 s.2.2.1.2.2.2.2.2.2.2.1 s.2.2.1.2.2.2.2.2.2.2.2.1 s.2.2.1.2.2.2.2.2.2.2.2.2.1 s.2.2.1.2.2.2.2.2.2.2.2.2.2 s.2.2.2.1 s.2.2.2.2.1 s.2.2.2.2.2
noncomputable def f20j19p : SP := { n := 114, ix := [1, 2, 3, 4, 8, 10, 11, 12, 13], p := (.cons (.int .i64) (.cons (.int .i64) (.cons (.int .i64) (.cons (.ptr 0 0) (.cons (.ptr 1 0) (.cons (.ref 2) (.cons .bool (.cons (.int .i64) (.ptr 3 0))))))))), hp := [(.cells (.cons (.nums .u8) (.cons (.int .i64) (.cons (.int .u64) (.cons (.int .u64) (.cons (.int .i64) (.cons .bool (.cons (.int .u64) (.cons (.sl 2) (.cons .bool (.cons (.int .i64) (.int .i64)))))))))))), (.cells (.cons (.nums .u8) (.cons (.int .i64) (.cons (.int .u64) (.cons (.int .u64) (.cons (.int .i64) (.cons .bool (.cons (.int .u64) (.cons (.sl 2) (.cons .bool (.cons (.int .i64) (.int .i64)))))))))))), (.arrS 2 75 2), (.cells (.cons (.int .i64) (.int .i64)))] }
noncomputable def f20j19x : List (Ex × SP) := [(.norm, { n := 114, ix := [1, 2, 3, 4, 8, 10, 11, 12], p := (.cons (.int .i64) (.cons (.int .i64) (.cons (.int .i64) (.cons (.ptr 0 0) (.cons (.ptr 1 0) (.cons (.ref 2) (.cons .bool (.int .i64)))))))), hp := [(.cells (.cons (.nums .u8) (.cons (.int .i64) (.cons (.int .u64) (.cons (.int .u64) (.cons (.int .i64) (.cons .bool (.cons (.int .u64) (.cons (.sl 2) (.cons .bool (.cons (.int .i64) (.int .i64)))))))))))), (.cells (.cons (.nums .u8) (.cons (.int .i64) (.cons (.int .u64) (.cons (.int .u64) (.cons (.int .i64) (.cons .bool (.cons (.int .u64) (.cons (.sl 2) (.cons .bool (.cons (.int .i64) (.int .i64)))))))))))), (.arrS 2 75 2)] })]
noncomputable def f20j19B (a1 : Int) (a2 : Int) (a3 : Int) (a4 : Bool) (a5 : Int) (a6 : List Int) (a7 : Int) (a8 : Int) (a9 : Int) (a10 : Int) (a11 : Bool) (a12 : Int) (a13 : List PD) (a14 : Bool) (a15 : Int) (a16 : Int) (a17 : List Int) (a18 : Int) (a19 : Int) (a20 : Int) (a21 : Int) (a22 : Bool) (a23 : Int) (a24 : List PD) (a25 : Bool) (a26 : Int) (a27 : Int) (a28 : List PD) (a29 : Int) (a30 : Int) : Option ((Int × Int × Int × Unit × Unit × Unit × Bool × Int) × ((List Int × Int × Int × Int × Int × Bool × Int × List PD × Bool × Int × Int) × (List Int × Int × Int × Int × Int × Bool × Int × List PD × Bool × Int × Int) × List PD)) :=
  cond (decide (a29 > a2)) (
    cond (!a4) (
      cond (decide (((a28 ++ [(PD.agg [(.int .i64 a2), (.int .i64 a1)])]).length) * 16 ≤ 140737488355328)) (
        Option.bind (f20j22 ((a1, a2, a3, (), (), (), true, a5, ()), ((a6, a7, a8, a9, a10, a11, a12, a13, a14, a15, a16), (a17, a18, a19, a20, a21, a22, a23, a24, a25, a26, a27), (a28 ++ [(PD.agg [(.int .i64 a2), (.int .i64 a1)])]), (a29, a30)))) fun y1 =>
        some ((y1.1.1, y1.1.2.1, y1.1.2.2.1, (), (), (), y1.1.2.2.2.2.2.2.1, y1.1.2.2.2.2.2.2.2), ((y1.2.1.1, y1.2.1.2.1, y1.2.1.2.2.1, y1.2.1.2.2.2.1, y1.2.1.2.2.2.2.1, y1.2.1.2.2.2.2.2.1, y1.2.1.2.2.2.2.2.2.1, y1.2.1.2.2.2.2.2.2.2.1, y1.2.1.2.2.2.2.2.2.2.2.1, y1.2.1.2.2.2.2.2.2.2.2.2.1, y1.2.1.2.2.2.2.2.2.2.2.2.2), (y1.2.2.1.1, y1.2.2.1.2.1, y1.2.2.1.2.2.1, y1.2.2.1.2.2.2.1, y1.2.2.1.2.2.2.2.1, y1.2.2.1.2.2.2.2.2.1, y1.2.2.1.2.2.2.2.2.2.1, y1.2.2.1.2.2.2.2.2.2.2.1, y1.2.2.1.2.2.2.2.2.2.2.2.1, y1.2.2.1.2.2.2.2.2.2.2.2.2.1, y1.2.2.1.2.2.2.2.2.2.2.2.2.2), y1.2.2.2))) none) (
      Option.bind (f20j22 ((a1, a2, a3, (), (), (), a4, a5, ()), ((a6, a7, a8, a9, a10, a11, a12, a13, a14, a15, a16), (a17, a18, a19, a20, a21, a22, a23, a24, a25, a26, a27), a28, (a29, a30)))) fun y2 =>
      some ((y2.1.1, y2.1.2.1, y2.1.2.2.1, (), (), (), y2.1.2.2.2.2.2.2.1, y2.1.2.2.2.2.2.2.2), ((y2.2.1.1, y2.2.1.2.1, y2.2.1.2.2.1, y2.2.1.2.2.2.1, y2.2.1.2.2.2.2.1, y2.2.1.2.2.2.2.2.1, y2.2.1.2.2.2.2.2.2.1, y2.2.1.2.2.2.2.2.2.2.1, y2.2.1.2.2.2.2.2.2.2.2.1, y2.2.1.2.2.2.2.2.2.2.2.2.1, y2.2.1.2.2.2.2.2.2.2.2.2.2), (y2.2.2.1.1, y2.2.2.1.2.1, y2.2.2.1.2.2.1, y2.2.2.1.2.2.2.1, y2.2.2.1.2.2.2.2.1, y2.2.2.1.2.2.2.2.2.1, y2.2.2.1.2.2.2.2.2.2.1, y2.2.2.1.2.2.2.2.2.2.2.1, y2.2.2.1.2.2.2.2.2.2.2.2.1, y2.2.2.1.2.2.2.2.2.2.2.2.2.1, y2.2.2.1.2.2.2.2.2.2.2.2.2.2), y2.2.2.2)))) (
    Option.bind (f20j22 ((a1, a2, a3, (), (), (), a4, a5, ()), ((a6, a7, a8, a9, a10, a11, a12, a13, a14, a15, a16), (a17, a18, a19, a20, a21, a22, a23, a24, a25, a26, a27), a28, (a29, a30)))) fun y3 =>
    some ((y3.1.1, y3.1.2.1, y3.1.2.2.1, (), (), (), y3.1.2.2.2.2.2.2.1, y3.1.2.2.2.2.2.2.2), ((y3.2.1.1, y3.2.1.2.1, y3.2.1.2.2.1, y3.2.1.2.2.2.1, y3.2.1.2.2.2.2.1, y3.2.1.2.2.2.2.2.1, y3.2.1.2.2.2.2.2.2.1, y3.2.1.2.2.2.2.2.2.2.1, y3.2.1.2.2.2.2.2.2.2.2.1, y3.2.1.2.2.2.2.2.2.2.2.2.1, y3.2.1.2.2.2.2.2.2.2.2.2.2), (y3.2.2.1.1, y3.2.2.1.2.1, y3.2.2.1.2.2.1, y3.2.2.1.2.2.2.1, y3.2.2.1.2.2.2.2.1, y3.2.2.1.2.2.2.2.2.1, y3.2.2.1.2.2.2.2.2.2.1, y3.2.2.1.2.2.2.2.2.2.2.1, y3.2.2.1.2.2.2.2.2.2.2.2.1, y3.2.2.1.2.2.2.2.2.2.2.2.2.1, y3.2.2.1.2.2.2.2.2.2.2.2.2.2), y3.2.2.2)))
noncomputable def f20j19 : ((Int × Int × Int × Unit × Unit × Unit × Bool × Int × Unit) × ((List Int × Int × Int × Int × Int × Bool × Int × List PD × Bool × Int × Int) × (List Int × Int × Int × Int × Int × Bool × Int × List PD × Bool × Int × Int) × List PD × (Int × Int))) → Option ((Int × Int × Int × Unit × Unit × Unit × Bool × Int) × ((List Int × Int × Int × Int × Int × Bool × Int × List PD × Bool × Int × Int) × (List Int × Int × Int × Int × Int × Bool × Int × List PD × Bool × Int × Int) × List PD)) := fun s => f20j19B s.1.1 s.1.2.1 s.1.2.2.1 s.1.2.2.2.2.2.2.1 s.1.2.2.2.2.2.2.2.1 s.2.1.1 s.2.1.2.1 s.2.1.2.2.1 s.2.1.2.2.2.1 s.2.1.2.2.2.2.1 s.2.1.2.2.2.2.2.1 s.2.1.2.2.2.2.2.2.1 s.2.1.2.2.2.2.2.2.2.1 s.2.1.2.2.2.2.2.2.2.2.1 s.2.1.2.2.2.2.2.2.2.2.2.1 s.2.1.2.2.2.2.2.2.2.2.2.2 s.2.2.1.1 s.2.2.1.2.1 s.2.2.1.2.2.1 s.2.2.1.2.2.2.1 s.2.2.1.2.2.2.2.1 s.2.2.1.2.2.2.2.2.1 s.2.2.1.2.2.2.2.2.2.1 s.2.2.1.2.2.2.2.2.2.2.1 s.2.2.1.2.2.2.2.2.2.2.2.1 s.2.2.1.2.2.2.2.2.2.2.2.2.1 s.2.2.1.2.2.2.2.2.2.2.2.2.2 s.2.2.2.1 s.2.2.2.2.1 s.2.2.2.2.2
noncomputable def f20l11p : SP := { n := 114, ix := [1, 2, 3, 4, 8, 10, 11, 12], p := (.cons (.int .i64) (.cons (.int .i64) (.cons (.int .i64) (.cons (.ptr 0 0) (.cons (.ptr 1 0) (.cons (.ref 2) (.cons .bool (.int .i64)))))))), hp := [(.cells (.cons (.nums .u8) (.cons (.int .i64) (.cons (.int .u64) (.cons (.int .u64) (.cons (.int .i64) (.cons .bool (.cons (.int .u64) (.cons (.sl 2) (.cons .bool (.cons (.int .i64) (.int .i64)))))))))))), (.cells (.cons (.nums .u8) (.cons (.int .i64) (.cons (.int .u64) (.cons (.int .u64) (.cons (.int .i64) (.cons .bool (.cons (.int .u64) (.cons (.sl 2) (.cons .bool (.cons (.int .i64) (.int .i64)))))))))))), (.arrS 2 75 2)] }
noncomputable def f20l11x : List (Ex × SP) := [(.ret, { n := 114, ix := [8, 9], p := (.cons (.ptr 1 0) (.int .i64)), hp := [(.cells (.cons (.nums .u8) (.cons (.int .i64) (.cons (.int .u64) (.cons (.int .u64) (.cons (.int .i64) (.cons .bool (.cons (.int .u64) (.cons (.sl 2) (.cons .bool (.cons (.int .i64) (.int .i64)))))))))))), (.cells (.cons (.nums .u8) (.cons (.int .i64) (.cons (.int .u64) (.cons (.int .u64) (.cons (.int .i64) (.cons .bool (.cons (.int .u64) (.cons (.sl 2) (.cons .bool (.cons (.int .i64) (.int .i64)))))))))))), (.arrS 2 75 2)] }), ((.exit 1), { n := 114, ix := [1, 2, 3, 4, 8, 10, 11], p := (.cons (.int .i64) (.cons (.int .i64) (.cons (.int .i64) (.cons (.ptr 0 0) (.cons (.ptr 1 0) (.cons (.ref 2) .bool)))))), hp := [(.cells (.cons (.nums .u8) (.cons (.int .i64) (.cons (.int .u64) (.cons (.int .u64) (.cons (.int .i64) (.cons .bool (.cons (.int .u64) (.cons (.sl 2) (.cons .bool (.cons (.int .i64) (.int .i64)))))))))))), (.cells (.cons (.nums .u8) (.cons (.int .i64) (.cons (.int .u64) (.cons (.int .u64) (.cons (.int .i64) (.cons .bool (.cons (.int .u64) (.cons (.sl 2) (.cons .bool (.cons (.int .i64) (.int .i64)))))))))))), (.arrS 2 75 2)] })]
noncomputable def f20l11B (a1 : Int) (a2 : Int) (a3 : Int) (a4 : Bool) (a5 : Int) (a6 : List Int) (a7 : Int) (a8 : Int) (a9 : Int) (a10 : Int) (a11 : Bool) (a12 : Int) (a13 : List PD) (a14 : Bool) (a15 : Int) (a16 : Int) (a17 : List Int) (a18 : Int) (a19 : Int) (a20 : Int) (a21 : Int) (a22 : Bool) (a23 : Int) (a24 : List PD) (a25 : Bool) (a26 : Int) (a27 : Int) (a28 : List PD) : Option (((Int × Int × Int × Unit × Unit × Unit × Bool × Int) × ((List Int × Int × Int × Int × Int × Bool × Int × List PD × Bool × Int × Int) × (List Int × Int × Int × Int × Int × Bool × Int × List PD × Bool × Int × Int) × List PD)) ⊕ (((Unit × Int) × ((List Int × Int × Int × Int × Int × Bool × Int × List PD × Bool × Int × Int) × (List Int × Int × Int × Int × Int × Bool × Int × List PD × Bool × Int × Int) × List PD)) ⊕ ((Int × Int × Int × Unit × Unit × Unit × Bool) × ((List Int × Int × Int × Int × Int × Bool × Int × List PD × Bool × Int × Int) × (List Int × Int × Int × Int × Int × Bool × Int × List PD × Bool × Int × Int) × List PD)))) :=
  cond (decide (a5 < (((a13.length) : Nat) : Int))) (
    Option.bind (getI a13 a5) fun y1 =>
    Option.bind (PD.intAt .i64 y1 0) fun y2 =>
    Option.bind (PD.intAt .i64 y1 1) fun y3 =>
    cond (y2 == a2) (
      cond (decide (y3 ≥ a1)) (
        some (.inr (.inl (((), 37), ((a6, a7, a8, a9, a10, a11, a12, a13, a14, a15, a16), (a6, a7, a8, a9, a10, a11, a12, a13, a14, a15, a16), a28))))) (
        Option.bind (f20j19 ((a1, a2, a3, (), (), (), true, a5, ()), ((a6, a7, a8, a9, a10, a11, a12, a13, a14, a15, a16), (a17, a18, a19, a20, a21, a22, a23, a24, a25, a26, a27), a28, (y2, a1)))) fun y4 =>
        some (.inl ((y4.1.1, y4.1.2.1, y4.1.2.2.1, (), (), (), y4.1.2.2.2.2.2.2.1, (IntKind.i64.wrap (y4.1.2.2.2.2.2.2.2 + 1))), ((y4.2.1.1, y4.2.1.2.1, y4.2.1.2.2.1, y4.2.1.2.2.2.1, y4.2.1.2.2.2.2.1, y4.2.1.2.2.2.2.2.1, y4.2.1.2.2.2.2.2.2.1, y4.2.1.2.2.2.2.2.2.2.1, y4.2.1.2.2.2.2.2.2.2.2.1, y4.2.1.2.2.2.2.2.2.2.2.2.1, y4.2.1.2.2.2.2.2.2.2.2.2.2), (y4.2.2.1.1, y4.2.2.1.2.1, y4.2.2.1.2.2.1, y4.2.2.1.2.2.2.1, y4.2.2.1.2.2.2.2.1, y4.2.2.1.2.2.2.2.2.1, y4.2.2.1.2.2.2.2.2.2.1, y4.2.2.1.2.2.2.2.2.2.2.1, y4.2.2.1.2.2.2.2.2.2.2.2.1, y4.2.2.1.2.2.2.2.2.2.2.2.2.1, y4.2.2.1.2.2.2.2.2.2.2.2.2.2), y4.2.2.2))))) (
      Option.bind (f20j19 ((a1, a2, a3, (), (), (), a4, a5, ()), ((a6, a7, a8, a9, a10, a11, a12, a13, a14, a15, a16), (a17, a18, a19, a20, a21, a22, a23, a24, a25, a26, a27), a28, (y2, y3)))) fun y5 =>
      some (.inl ((y5.1.1, y5.1.2.1, y5.1.2.2.1, (), (), (), y5.1.2.2.2.2.2.2.1, (IntKind.i64.wrap (y5.1.2.2.2.2.2.2.2 + 1))), ((y5.2.1.1, y5.2.1.2.1, y5.2.1.2.2.1, y5.2.1.2.2.2.1, y5.2.1.2.2.2.2.1, y5.2.1.2.2.2.2.2.1, y5.2.1.2.2.2.2.2.2.1, y5.2.1.2.2.2.2.2.2.2.1, y5.2.1.2.2.2.2.2.2.2.2.1, y5.2.1.2.2.2.2.2.2.2.2.2.1, y5.2.1.2.2.2.2.2.2.2.2.2.2), (y5.2.2.1.1, y5.2.2.1.2.1, y5.2.2.1.2.2.1, y5.2.2.1.2.2.2.1, y5.2.2.1.2.2.2.2.1, y5.2.2.1.2.2.2.2.2.1, y5.2.2.1.2.2.2.2.2.2.1, y5.2.2.1.2.2.2.2.2.2.2.1, y5.2.2.1.2.2.2.2.2.2.2.2.1, y5.2.2.1.2.2.2.2.2.2.2.2.2.1, y5.2.2.1.2.2.2.2.2.2.2.2.2.2), y5.2.2.2))))) (
    some (.inr (.inr ((a1, a2, a3, (), (), (), a4), ((a6, a7, a8, a9, a10, a11, a12, a13, a14, a15, a16), (a17, a18, a19, a20, a21, a22, a23, a24, a25, a26, a27), a28)))))
noncomputable def f20l11 : ((Int × Int × Int × Unit × Unit × Unit × Bool × Int) × ((List Int × Int × Int × Int × Int × Bool × Int × List PD × Bool × Int × Int) × (List Int × Int × Int × Int × Int × Bool × Int × List PD × Bool × Int × Int) × List PD)) → Option (((Int × Int × Int × Unit × Unit × Unit × Bool × Int) × ((List Int × Int × Int × Int × Int × Bool × Int × List PD × Bool × Int × Int) × (List Int × Int × Int × Int × Int × Bool × Int × List PD × Bool × Int × Int) × List PD)) ⊕ (((Unit × Int) × ((List Int × Int × Int × Int × Int × Bool × Int × List PD × Bool × Int × Int) × (List Int × Int × Int × Int × Int × Bool × Int × List PD × Bool × Int × Int) × List PD)) ⊕ ((Int × Int × Int × Unit × Unit × Unit × Bool) × ((List Int × Int × Int × Int × Int × Bool × Int × List PD × Bool × Int × Int) × (List Int × Int × Int × Int × Int × Bool × Int × List PD × Bool × Int × Int) × List PD)))) := fun s => f20l11B s.1.1 s.1.2.1 s.1.2.2.1 s.1.2.2.2.2.2.2.1 s.1.2.2.2.2.2.2.2 s.2.1.1 s.2.1.2.1 s.2.1.2.2.1 s.2.1.2.2.2.1 s.2.1.2.2.2.2.1 s.2.1.2.2.2.2.2.1 s.2.1.2.2.2.2.2.2.1 s.2.1.2.2.2.2.2.2.2.1 s.2.1.2.2.2.2.2.2.2.2.1 s.2.1.2.2.2.2.2.2.2.2.2.1 s.2.1.2.2.2.2.2.2.2.2.2.2 s.2.2.1.1 s.2.2.1.2.1 s.2.2.1.2.2.1 s.2.2.1.2.2.2.1 s.2.2.1.2.2.2.2.1 s.2.2.1.2.2.2.2.2.1 s.2.2.1.2.2.2.2.2.2.1 s.2.2.1.2.2.2.2.2.2.2.1 s.2.2.1.2.2.2.2.2.2.2.2.1 s.2.2.1.2.2.2.2.2.2.2.2.2.1 s.2.2.1.2.2.2.2.2.2.2.2.2.2 s.2.2.2
noncomputable def f20j25p : SP := { n := 114, ix := [1, 3, 4, 8, 10], p := (.cons (.int .i64) (.cons (.int .i64) (.cons (.ptr 0 0) (.cons (.ptr 1 0) (.ref 2))))), hp := [(.cells (.cons (.nums .u8) (.cons (.int .i64) (.cons (.int .u64) (.cons (.int .u64) (.cons (.int .i64) (.cons .bool (.cons (.int .u64) (.cons (.sl 2) (.cons .bool (.cons (.int .i64) (.int .i64)))))))))))), (.cells (.cons (.nums .u8) (.cons (.int .i64) (.cons (.int .u64) (.cons (.int .u64) (.cons (.int .i64) (.cons .bool (.cons (.int .u64) (.cons (.sl 2) (.cons .bool (.cons (.int .i64) (.int .i64)))))))))))), (.arrS 2 75 2)] }
noncomputable def f20j25x : List (Ex × SP) := [(.ret, { n := 114, ix := [8, 9], p := (.cons (.ptr 0 0) (.int .i64)), hp := [(.cells (.cons (.nums .u8) (.cons (.int .i64) (.cons (.int .u64) (.cons (.int .u64) (.cons (.int .i64) (.cons .bool (.cons (.int .u64) (.cons (.ref 1) (.cons .bool (.cons (.int .i64) (.int .i64)))))))))))), (.arrS 2 75 2)] })]
noncomputable def f20j25B (a1 : Int) (a2 : Int) (a3 : List Int) (a4 : Int) (a5 : Int) (a6 : Int) (a7 : Int) (a8 : Bool) (a9 : Int) (a10 : List PD) (a11 : Bool) (a12 : Int) (a13 : Int) (a14 : List Int) (a15 : Int) (a16 : Int) (a17 : Int) (a18 : Int) (a19 : Bool) (a20 : Int) (a21 : List PD) (a22 : Bool) (a23 : Int) (a24 : Int) (a25 : List PD) : Option ((Unit × Int) × ((List Int × Int × Int × Int × Int × Bool × Int × Unit × Bool × Int × Int) × List PD)) :=
  cond (decide (0 ≤ (IntKind.u64.wrap a1))) (
    some (((), 0), ((a3, a4, a5, a6, a7, a8, (bitsI .or .u64 a9 (shlI .u64 1 (IntKind.u64.wrap a1))), (), a11, a12, a2), a25))) none
noncomputable def f20j25 : ((Int × Int × Unit × Unit × Unit) × ((List Int × Int × Int × Int × Int × Bool × Int × List PD × Bool × Int × Int) × (List Int × Int × Int × Int × Int × Bool × Int × List PD × Bool × Int × Int) × List PD)) → Option ((Unit × Int) × ((List Int × Int × Int × Int × Int × Bool × Int × Unit × Bool × Int × Int) × List PD)) := fun s => f20j25B s.1.1 s.1.2.1 s.2.1.1 s.2.1.2.1 s.2.1.2.2.1 s.2.1.2.2.2.1 s.2.1.2.2.2.2.1 s.2.1.2.2.2.2.2.1 s.2.1.2.2.2.2.2.2.1 s.2.1.2.2.2.2.2.2.2.1 s.2.1.2.2.2.2.2.2.2.2.1 s.2.1.2.2.2.2.2.2.2.2.2.1 s.2.1.2.2.2.2.2.2.2.2.2.2 s.2.2.1.1 s.2.2.1.2.1 s.2.2.1.2.2.1 s.2.2.1.2.2.2.1 s.2.2.1.2.2.2.2.1 s.2.2.1.2.2.2.2.2.1 s.2.2.1.2.2.2.2.2.2.1 s.2.2.1.2.2.2.2.2.2.2.1 s.2.2.1.2.2.2.2.2.2.2.2.1 s.2.2.1.2.2.2.2.2.2.2.2.2.1 s.2.2.1.2.2.2.2.2.2.2.2.2.2 s.2.2.2
noncomputable def f20j8p : SP := { n := 114, ix := [1, 2, 3, 4, 8], p := (.cons (.int .i64) (.cons (.int .i64) (.cons (.int .i64) (.cons (.ptr 0 0) (.ptr 1 0))))), hp := [(.cells (.cons (.nums .u8) (.cons (.int .i64) (.cons (.int .u64) (.cons (.int .u64) (.cons (.int .i64) (.cons .bool (.cons (.int .u64) (.cons (.sl 2) (.cons .bool (.cons (.int .i64) (.int .i64)))))))))))), (.cells (.cons (.nums .u8) (.cons (.int .i64) (.cons (.int .u64) (.cons (.int .u64) (.cons (.int .i64) (.cons .bool (.cons (.int .u64) (.cons (.sl 2) (.cons .bool (.cons (.int .i64) (.int .i64))))))))))))] }
noncomputable def f20j8x : List (Ex × SP) := [(.ret, { n := 114, ix := [8, 9], p := (.cons (.ptr 0 0) (.int .i64)), hp := [(.cells (.cons (.nums .u8) (.cons (.int .i64) (.cons (.int .u64) (.cons (.int .u64) (.cons (.int .i64) (.cons .bool (.cons (.int .u64) (.cons (.sl 2) (.cons .bool (.cons (.int .i64) (.int .i64))))))))))))] })]
noncomputable def f20j8B (a1 : Int) (a2 : Int) (a3 : Int) (a4 : List Int) (a5 : Int) (a6 : Int) (a7 : Int) (a8 : Int) (a9 : Bool) (a10 : Int) (a11 : List PD) (a12 : Bool) (a13 : Int) (a14 : Int) (a15 : List Int) (a16 : Int) (a17 : Int) (a18 : Int) (a19 : Int) (a20 : Bool) (a21 : Int) (a22 : List PD) (a23 : Bool) (a24 : Int) (a25 : Int) : Option ((Unit × Int) × (List Int × Int × Int × Int × Int × Bool × Int × List PD × Bool × Int × Int)) :=
  Option.bind (loopFix f20l11 ((a1, a2, a3, (), (), (), false, 0), ((a4, a5, a6, a7, a8, a9, a10, a11, a12, a13, a14), (a15, a16, a17, a18, a19, a20, a21, a22, a23, a24, a25), []))) fun y1 =>
  match y1 with
  | (.inl y2) =>
    some (((), y2.1.2), (y2.2.2.1.1, y2.2.2.1.2.1, y2.2.2.1.2.2.1, y2.2.2.1.2.2.2.1, y2.2.2.1.2.2.2.2.1, y2.2.2.1.2.2.2.2.2.1, y2.2.2.1.2.2.2.2.2.2.1, y2.2.2.1.2.2.2.2.2.2.2.1, y2.2.2.1.2.2.2.2.2.2.2.2.1, y2.2.2.1.2.2.2.2.2.2.2.2.2.1, y2.2.2.1.2.2.2.2.2.2.2.2.2.2))
  | (.inr y3) =>
    cond (!y3.1.2.2.2.2.2.2) (
      cond (decide (((y3.2.2.2 ++ [(PD.agg [(.int .i64 y3.1.2.1), (.int .i64 y3.1.1)])]).length) * 16 ≤ 140737488355328)) (
        Option.bind (f20j25 ((y3.1.1, y3.1.2.2.1, (), (), ()), ((y3.2.1.1, y3.2.1.2.1, y3.2.1.2.2.1, y3.2.1.2.2.2.1, y3.2.1.2.2.2.2.1, y3.2.1.2.2.2.2.2.1, y3.2.1.2.2.2.2.2.2.1, y3.2.1.2.2.2.2.2.2.2.1, y3.2.1.2.2.2.2.2.2.2.2.1, y3.2.1.2.2.2.2.2.2.2.2.2.1, y3.2.1.2.2.2.2.2.2.2.2.2.2), (y3.2.2.1.1, y3.2.2.1.2.1, y3.2.2.1.2.2.1, y3.2.2.1.2.2.2.1, y3.2.2.1.2.2.2.2.1, y3.2.2.1.2.2.2.2.2.1, y3.2.2.1.2.2.2.2.2.2.1, y3.2.2.1.2.2.2.2.2.2.2.1, y3.2.2.1.2.2.2.2.2.2.2.2.1, y3.2.2.1.2.2.2.2.2.2.2.2.2.1, y3.2.2.1.2.2.2.2.2.2.2.2.2.2), (y3.2.2.2 ++ [(PD.agg [(.int .i64 y3.1.2.1), (.int .i64 y3.1.1)])])))) fun y4 =>
        some (((), y4.1.2), (y4.2.1.1, y4.2.1.2.1, y4.2.1.2.2.1, y4.2.1.2.2.2.1, y4.2.1.2.2.2.2.1, y4.2.1.2.2.2.2.2.1, y4.2.1.2.2.2.2.2.2.1, y4.2.2, y4.2.1.2.2.2.2.2.2.2.2.1, y4.2.1.2.2.2.2.2.2.2.2.2.1, y4.2.1.2.2.2.2.2.2.2.2.2.2))) none) (
      Option.bind (f20j25 ((y3.1.1, y3.1.2.2.1, (), (), ()), ((y3.2.1.1, y3.2.1.2.1, y3.2.1.2.2.1, y3.2.1.2.2.2.1, y3.2.1.2.2.2.2.1, y3.2.1.2.2.2.2.2.1, y3.2.1.2.2.2.2.2.2.1, y3.2.1.2.2.2.2.2.2.2.1, y3.2.1.2.2.2.2.2.2.2.2.1, y3.2.1.2.2.2.2.2.2.2.2.2.1, y3.2.1.2.2.2.2.2.2.2.2.2.2), (y3.2.2.1.1, y3.2.2.1.2.1, y3.2.2.1.2.2.1, y3.2.2.1.2.2.2.1, y3.2.2.1.2.2.2.2.1, y3.2.2.1.2.2.2.2.2.1, y3.2.2.1.2.2.2.2.2.2.1, y3.2.2.1.2.2.2.2.2.2.2.1, y3.2.2.1.2.2.2.2.2.2.2.2.1, y3.2.2.1.2.2.2.2.2.2.2.2.2.1, y3.2.2.1.2.2.2.2.2.2.2.2.2.2), y3.2.2.2))) fun y5 =>
      some (((), y5.1.2), (y5.2.1.1, y5.2.1.2.1, y5.2.1.2.2.1, y5.2.1.2.2.2.1, y5.2.1.2.2.2.2.1, y5.2.1.2.2.2.2.2.1, y5.2.1.2.2.2.2.2.2.1, y5.2.2, y5.2.1.2.2.2.2.2.2.2.2.1, y5.2.1.2.2.2.2.2.2.2.2.2.1, y5.2.1.2.2.2.2.2.2.2.2.2.2)))
noncomputable def f20j8 : ((Int × Int × Int × Unit × Unit) × ((List Int × Int × Int × Int × Int × Bool × Int × List PD × Bool × Int × Int) × (List Int × Int × Int × Int × Int × Bool × Int × List PD × Bool × Int × Int))) → Option ((Unit × Int) × (List Int × Int × Int × Int × Int × Bool × Int × List PD × Bool × Int × Int)) := fun s => f20j8B s.1.1 s.1.2.1 s.1.2.2.1 s.2.1.1 s.2.1.2.1 s.2.1.2.2.1 s.2.1.2.2.2.1 s.2.1.2.2.2.2.1 s.2.1.2.2.2.2.2.1 s.2.1.2.2.2.2.2.2.1 s.2.1.2.2.2.2.2.2.2.1 s.2.1.2.2.2.2.2.2.2.2.1 s.2.1.2.2.2.2.2.2.2.2.2.1 s.2.1.2.2.2.2.2.2.2.2.2.2 s.2.2.1 s.2.2.2.1 s.2.2.2.2.1 s.2.2.2.2.2.1 s.2.2.2.2.2.2.1 s.2.2.2.2.2.2.2.1 s.2.2.2.2.2.2.2.2.1 s.2.2.2.2.2.2.2.2.2.1 s.2.2.2.2.2.2.2.2.2.2.1 s.2.2.2.2.2.2.2.2.2.2.2.1 s.2.2.2.2.2.2.2.2.2.2.2.2
noncomputable def f20 (a1 : List Int) (a2 : Int) (a3 : Int) (a4 : Int) (a5 : Int) (a6 : Bool) (a7 : Int) (a8 : List PD) (a9 : Bool) (a10 : Int) (a11 : Int) (a12 : Int) (a13 : Int) (a14 : Int) : Option ((List Int × Int × Int × Int × Int × Bool × Int × List PD × Bool × Int × Int) × Int) :=
  Option.bind (f35 a2 0 4) fun y1 =>
  cond (!y1) (
    some ((a1, a2, a3, a4, a5, a6, a7, a8, a9, a10, a11), 9)) (
    cond (decide (a13 < 0)) (
      some ((a1, a2, a3, a4, a5, a6, a7, a8, a9, a10, a11), 9)) (
      cond (decide (a12 < a13)) (
        some ((a1, a2, a3, a4, a5, a6, a7, a8, a9, a10, a11), 9)) (
        cond (decide (0 ≤ (IntKind.u64.wrap a2))) (
          cond (decide (a12 ≥ (shlI .i64 1 (IntKind.u64.wrap a2)))) (
            some ((a1, a2, a3, a4, a5, a6, a7, a8, a9, a10, a11), 9)) (
            cond a9 (
              some ((a1, a2, a3, a4, a5, a6, a7, a8, a9, a10, a11), 39)) (
              cond (decide (0 ≤ (IntKind.u64.wrap a12))) (
                cond ((bitsI .and .u64 (shrI .u64 a7 (IntKind.u64.wrap a12)) 1) == 1) (
                  some ((a1, a2, a3, a4, a5, a6, a7, a8, true, a10, a11), 37)) (
                  Option.bind (f20j8 ((a12, a13, a14, (), ()), ((a1, a2, a3, a4, a5, a6, a7, a8, a9, a10, a11), ([], 0, 0, 0, 0, false, 0, [], false, 0, 0)))) fun y2 =>
                  some ((y2.2.1, y2.2.2.1, y2.2.2.2.1, y2.2.2.2.2.1, y2.2.2.2.2.2.1, y2.2.2.2.2.2.2.1, y2.2.2.2.2.2.2.2.1, y2.2.2.2.2.2.2.2.2.1, y2.2.2.2.2.2.2.2.2.2.1, y2.2.2.2.2.2.2.2.2.2.2.1, y2.2.2.2.2.2.2.2.2.2.2.2), y2.1.2))) none))) none)))
noncomputable def f20C : Cal := tbl [(35, (ent (.cons (.int .i64) (.cons (.int .i64) (.int .i64))) [] .bool [] f35W))]
theorem f20C_ok : CalOK Try.prog f20C ∧ CalNt f20C := tbl_ok (by
  intro p hp
  simp only [List.mem_cons, List.not_mem_nil, or_false] at hp
  rcases hp with rfl
  exact f35_ok)
noncomputable def f20F : FH := { join := [(22, { keep := [1, 2, 3, 4, 8, 10, 11, 12, 13] }), (19, { keep := [1, 2, 3, 4, 8, 10, 11, 12, 13] }), (25, { keep := [1, 3, 4, 8, 10] }), (8, { keep := [1, 2, 3, 4, 8] })], loops := [(11, { keep := [1, 2, 3, 4, 8, 10, 11, 12], own := [(10, 75)] }, { keep := [1, 2, 3, 4, 8, 9, 10, 11] })] }
theorem f20j22_s (a1 : Int) (a2 : Int) (a3 : Int) (a4 : Bool) (a5 : Int) (a6 : List Int) (a7 : Int) (a8 : Int) (a9 : Int) (a10 : Int) (a11 : Bool) (a12 : Int) (a13 : List PD) (a14 : Bool) (a15 : Int) (a16 : Int) (a17 : List Int) (a18 : Int) (a19 : Int) (a20 : Int) (a21 : Int) (a22 : Bool) (a23 : Int) (a24 : List PD) (a25 : Bool) (a26 : Int) (a27 : Int) (a28 : List PD) (a29 : Int) (a30 : Int) : joinC Try.prog f20C f20F [] [] 0 ((joinsAt 22 (codeOf Try.f20)).headD .skip) f20j22p f20j22x { keep := [1, 2, 3, 4, 8, 9, 10, 11, 12] } ((a1, a2, a3, (), (), (), a4, a5, ()), ((a6, a7, a8, a9, a10, a11, a12, a13, a14, a15, a16), (a17, a18, a19, a20, a21, a22, a23, a24, a25, a26, a27), a28, (a29, a30))) _ some = f20j22 ((a1, a2, a3, (), (), (), a4, a5, ()), ((a6, a7, a8, a9, a10, a11, a12, a13, a14, a15, a16), (a17, a18, a19, a20, a21, a22, a23, a24, a25, a26, a27), a28, (a29, a30))) := by kernel_rfl
theorem f20j22_t : ToldC Try.prog 0 (codeOf Try.f20) [] ((22, toldJ f20j22p f20j22x f20j22) :: []) :=
  ToldC.join f20F 0 (ToldC.nil 0) f20C_ok 22 ((joinsAt 22 (codeOf Try.f20)).headD .skip) (by kernel_rfl) (p := f20j22p) (px := f20j22x) (g := f20j22) (ho := { keep := [1, 2, 3, 4, 8, 9, 10, 11, 12] }) fun (x : ((Int × Int × Int × Unit × Unit × Unit × Bool × Int × Unit) × ((List Int × Int × Int × Int × Int × Bool × Int × List PD × Bool × Int × Int) × (List Int × Int × Int × Int × Int × Bool × Int × List PD × Bool × Int × Int) × List PD × (Int × Int)))) => f20j22_s x.1.1 x.1.2.1 x.1.2.2.1 x.1.2.2.2.2.2.2.1 x.1.2.2.2.2.2.2.2.1 x.2.1.1 x.2.1.2.1 x.2.1.2.2.1 x.2.1.2.2.2.1 x.2.1.2.2.2.2.1 x.2.1.2.2.2.2.2.1 x.2.1.2.2.2.2.2.2.1 x.2.1.2.2.2.2.2.2.2.1 x.2.1.2.2.2.2.2.2.2.2.1 x.2.1.2.2.2.2.2.2.2.2.2.1 x.2.1.2.2.2.2.2.2.2.2.2.2 x.2.2.1.1 x.2.2.1.2.1 x.2.2.1.2.2.1 x.2.2.1.2.2.2.1 x.2.2.1.2.2.2.2.1 x.2.2.1.2.2.2.2.2.1 x.2.2.1.2.2.2.2.2.2.1 x.2.2.1.2.2.2.2.2.2.2.1 x.2.2.1.2.2.2.2.2.2.2.2.1 x.2.2.1.2.2.2.2.2.2.2.2.2.1 x.2.2.1.2.2.2.2.2.2.2.2.2.2 x.2.2.2.1 x.2.2.2.2.1 x.2.2.2.2.2
theorem f20j19_s (a1 : Int) (a2 : Int) (a3 : Int) (a4 : Bool) (a5 : Int) (a6 : List Int) (a7 : Int) (a8 : Int) (a9 : Int) (a10 : Int) (a11 : Bool) (a12 : Int) (a13 : List PD) (a14 : Bool) (a15 : Int) (a16 : Int) (a17 : List Int) (a18 : Int) (a19 : Int) (a20 : Int) (a21 : Int) (a22 : Bool) (a23 : Int) (a24 : List PD) (a25 : Bool) (a26 : Int) (a27 : Int) (a28 : List PD) (a29 : Int) (a30 : Int) : joinC Try.prog f20C f20F [] ((22, toldJ f20j22p f20j22x f20j22) :: []) 0 ((joinsAt 19 (codeOf Try.f20)).headD .skip) f20j19p f20j19x { keep := [1, 2, 3, 4, 8, 9, 10, 11, 12] } ((a1, a2, a3, (), (), (), a4, a5, ()), ((a6, a7, a8, a9, a10, a11, a12, a13, a14, a15, a16), (a17, a18, a19, a20, a21, a22, a23, a24, a25, a26, a27), a28, (a29, a30))) _ some = f20j19 ((a1, a2, a3, (), (), (), a4, a5, ()), ((a6, a7, a8, a9, a10, a11, a12, a13, a14, a15, a16), (a17, a18, a19, a20, a21, a22, a23, a24, a25, a26, a27), a28, (a29, a30))) := by kernel_rfl
theorem f20j19_t : ToldC Try.prog 0 (codeOf Try.f20) [] ((19, toldJ f20j19p f20j19x f20j19) :: ((22, toldJ f20j22p f20j22x f20j22) :: [])) :=
  ToldC.join f20F 0 f20j22_t f20C_ok 19 ((joinsAt 19 (codeOf Try.f20)).headD .skip) (by kernel_rfl) (p := f20j19p) (px := f20j19x) (g := f20j19) (ho := { keep := [1, 2, 3, 4, 8, 9, 10, 11, 12] }) fun (x : ((Int × Int × Int × Unit × Unit × Unit × Bool × Int × Unit) × ((List Int × Int × Int × Int × Int × Bool × Int × List PD × Bool × Int × Int) × (List Int × Int × Int × Int × Int × Bool × Int × List PD × Bool × Int × Int) × List PD × (Int × Int)))) => f20j19_s x.1.1 x.1.2.1 x.1.2.2.1 x.1.2.2.2.2.2.2.1 x.1.2.2.2.2.2.2.2.1 x.2.1.1 x.2.1.2.1 x.2.1.2.2.1 x.2.1.2.2.2.1 x.2.1.2.2.2.2.1 x.2.1.2.2.2.2.2.1 x.2.1.2.2.2.2.2.2.1 x.2.1.2.2.2.2.2.2.2.1 x.2.1.2.2.2.2.2.2.2.2.1 x.2.1.2.2.2.2.2.2.2.2.2.1 x.2.1.2.2.2.2.2.2.2.2.2.2 x.2.2.1.1 x.2.2.1.2.1 x.2.2.1.2.2.1 x.2.2.1.2.2.2.1 x.2.2.1.2.2.2.2.1 x.2.2.1.2.2.2.2.2.1 x.2.2.1.2.2.2.2.2.2.1 x.2.2.1.2.2.2.2.2.2.2.1 x.2.2.1.2.2.2.2.2.2.2.2.1 x.2.2.1.2.2.2.2.2.2.2.2.2.1 x.2.2.1.2.2.2.2.2.2.2.2.2.2 x.2.2.2.1 x.2.2.2.2.1 x.2.2.2.2.2
theorem f20l11_s (a1 : Int) (a2 : Int) (a3 : Int) (a4 : Bool) (a5 : Int) (a6 : List Int) (a7 : Int) (a8 : Int) (a9 : Int) (a10 : Int) (a11 : Bool) (a12 : Int) (a13 : List PD) (a14 : Bool) (a15 : Int) (a16 : Int) (a17 : List Int) (a18 : Int) (a19 : Int) (a20 : Int) (a21 : Int) (a22 : Bool) (a23 : Int) (a24 : List PD) (a25 : Bool) (a26 : Int) (a27 : Int) (a28 : List PD) : stepC Try.prog f20C f20F [] ((19, toldJ f20j19p f20j19x f20j19) :: ((22, toldJ f20j22p f20j22x f20j22) :: [])) 0 ((loopsAt 11 (codeOf Try.f20)).headD .skip) f20l11p f20l11x { keep := [1, 2, 3, 4, 8, 10, 11, 12], own := [(10, 75)] } { keep := [1, 2, 3, 4, 8, 9, 10, 11] } ((a1, a2, a3, (), (), (), a4, a5), ((a6, a7, a8, a9, a10, a11, a12, a13, a14, a15, a16), (a17, a18, a19, a20, a21, a22, a23, a24, a25, a26, a27), a28)) _ some = f20l11 ((a1, a2, a3, (), (), (), a4, a5), ((a6, a7, a8, a9, a10, a11, a12, a13, a14, a15, a16), (a17, a18, a19, a20, a21, a22, a23, a24, a25, a26, a27), a28)) := by kernel_rfl
theorem f20l11_t : ToldC Try.prog 0 (codeOf Try.f20) ((11, toldL f20l11p f20l11x f20l11) :: []) ((19, toldJ f20j19p f20j19x f20j19) :: ((22, toldJ f20j22p f20j22x f20j22) :: [])) :=
  ToldC.loop f20F 0 f20j19_t f20C_ok 11 ((loopsAt 11 (codeOf Try.f20)).headD .skip) (by kernel_rfl) (p := f20l11p) (px := f20l11x) (g := f20l11) (hi := { keep := [1, 2, 3, 4, 8, 10, 11, 12], own := [(10, 75)] }) (ho := { keep := [1, 2, 3, 4, 8, 9, 10, 11] }) (by kernel_rfl) fun (x : ((Int × Int × Int × Unit × Unit × Unit × Bool × Int) × ((List Int × Int × Int × Int × Int × Bool × Int × List PD × Bool × Int × Int) × (List Int × Int × Int × Int × Int × Bool × Int × List PD × Bool × Int × Int) × List PD))) => f20l11_s x.1.1 x.1.2.1 x.1.2.2.1 x.1.2.2.2.2.2.2.1 x.1.2.2.2.2.2.2.2 x.2.1.1 x.2.1.2.1 x.2.1.2.2.1 x.2.1.2.2.2.1 x.2.1.2.2.2.2.1 x.2.1.2.2.2.2.2.1 x.2.1.2.2.2.2.2.2.1 x.2.1.2.2.2.2.2.2.2.1 x.2.1.2.2.2.2.2.2.2.2.1 x.2.1.2.2.2.2.2.2.2.2.2.1 x.2.1.2.2.2.2.2.2.2.2.2.2 x.2.2.1.1 x.2.2.1.2.1 x.2.2.1.2.2.1 x.2.2.1.2.2.2.1 x.2.2.1.2.2.2.2.1 x.2.2.1.2.2.2.2.2.1 x.2.2.1.2.2.2.2.2.2.1 x.2.2.1.2.2.2.2.2.2.2.1 x.2.2.1.2.2.2.2.2.2.2.2.1 x.2.2.1.2.2.2.2.2.2.2.2.2.1 x.2.2.1.2.2.2.2.2.2.2.2.2.2 x.2.2.2
theorem f20j25_s (a1 : Int) (a2 : Int) (a3 : List Int) (a4 : Int) (a5 : Int) (a6 : Int) (a7 : Int) (a8 : Bool) (a9 : Int) (a10 : List PD) (a11 : Bool) (a12 : Int) (a13 : Int) (a14 : List Int) (a15 : Int) (a16 : Int) (a17 : Int) (a18 : Int) (a19 : Bool) (a20 : Int) (a21 : List PD) (a22 : Bool) (a23 : Int) (a24 : Int) (a25 : List PD) : joinC Try.prog f20C f20F ((11, toldL f20l11p f20l11x f20l11) :: []) ((19, toldJ f20j19p f20j19x f20j19) :: ((22, toldJ f20j22p f20j22x f20j22) :: [])) 0 ((joinsAt 25 (codeOf Try.f20)).headD .skip) f20j25p f20j25x { keep := [8, 9] } ((a1, a2, (), (), ()), ((a3, a4, a5, a6, a7, a8, a9, a10, a11, a12, a13), (a14, a15, a16, a17, a18, a19, a20, a21, a22, a23, a24), a25)) _ some = f20j25 ((a1, a2, (), (), ()), ((a3, a4, a5, a6, a7, a8, a9, a10, a11, a12, a13), (a14, a15, a16, a17, a18, a19, a20, a21, a22, a23, a24), a25)) := by kernel_rfl
theorem f20j25_t : ToldC Try.prog 0 (codeOf Try.f20) ((11, toldL f20l11p f20l11x f20l11) :: []) ((25, toldJ f20j25p f20j25x f20j25) :: ((19, toldJ f20j19p f20j19x f20j19) :: ((22, toldJ f20j22p f20j22x f20j22) :: []))) :=
  ToldC.join f20F 0 f20l11_t f20C_ok 25 ((joinsAt 25 (codeOf Try.f20)).headD .skip) (by kernel_rfl) (p := f20j25p) (px := f20j25x) (g := f20j25) (ho := { keep := [8, 9] }) fun (x : ((Int × Int × Unit × Unit × Unit) × ((List Int × Int × Int × Int × Int × Bool × Int × List PD × Bool × Int × Int) × (List Int × Int × Int × Int × Int × Bool × Int × List PD × Bool × Int × Int) × List PD))) => f20j25_s x.1.1 x.1.2.1 x.2.1.1 x.2.1.2.1 x.2.1.2.2.1 x.2.1.2.2.2.1 x.2.1.2.2.2.2.1 x.2.1.2.2.2.2.2.1 x.2.1.2.2.2.2.2.2.1 x.2.1.2.2.2.2.2.2.2.1 x.2.1.2.2.2.2.2.2.2.2.1 x.2.1.2.2.2.2.2.2.2.2.2.1 x.2.1.2.2.2.2.2.2.2.2.2.2 x.2.2.1.1 x.2.2.1.2.1 x.2.2.1.2.2.1 x.2.2.1.2.2.2.1 x.2.2.1.2.2.2.2.1 x.2.2.1.2.2.2.2.2.1 x.2.2.1.2.2.2.2.2.2.1 x.2.2.1.2.2.2.2.2.2.2.1 x.2.2.1.2.2.2.2.2.2.2.2.1 x.2.2.1.2.2.2.2.2.2.2.2.2.1 x.2.2.1.2.2.2.2.2.2.2.2.2.2 x.2.2.2
theorem f20j8_s (a1 : Int) (a2 : Int) (a3 : Int) (a4 : List Int) (a5 : Int) (a6 : Int) (a7 : Int) (a8 : Int) (a9 : Bool) (a10 : Int) (a11 : List PD) (a12 : Bool) (a13 : Int) (a14 : Int) (a15 : List Int) (a16 : Int) (a17 : Int) (a18 : Int) (a19 : Int) (a20 : Bool) (a21 : Int) (a22 : List PD) (a23 : Bool) (a24 : Int) (a25 : Int) : joinC Try.prog f20C f20F ((11, toldL f20l11p f20l11x f20l11) :: []) ((25, toldJ f20j25p f20j25x f20j25) :: ((19, toldJ f20j19p f20j19x f20j19) :: ((22, toldJ f20j22p f20j22x f20j22) :: []))) 0 ((joinsAt 8 (codeOf Try.f20)).headD .skip) f20j8p f20j8x { keep := [8, 9], fzC := [(8, 7)] } ((a1, a2, a3, (), ()), ((a4, a5, a6, a7, a8, a9, a10, a11, a12, a13, a14), (a15, a16, a17, a18, a19, a20, a21, a22, a23, a24, a25))) _ some = f20j8 ((a1, a2, a3, (), ()), ((a4, a5, a6, a7, a8, a9, a10, a11, a12, a13, a14), (a15, a16, a17, a18, a19, a20, a21, a22, a23, a24, a25))) := by kernel_rfl
theorem f20j8_t : ToldC Try.prog 0 (codeOf Try.f20) ((11, toldL f20l11p f20l11x f20l11) :: []) ((8, toldJ f20j8p f20j8x f20j8) :: ((25, toldJ f20j25p f20j25x f20j25) :: ((19, toldJ f20j19p f20j19x f20j19) :: ((22, toldJ f20j22p f20j22x f20j22) :: [])))) :=
  ToldC.join f20F 0 f20j25_t f20C_ok 8 ((joinsAt 8 (codeOf Try.f20)).headD .skip) (by kernel_rfl) (p := f20j8p) (px := f20j8x) (g := f20j8) (ho := { keep := [8, 9], fzC := [(8, 7)] }) fun (x : ((Int × Int × Int × Unit × Unit) × ((List Int × Int × Int × Int × Int × Bool × Int × List PD × Bool × Int × Int) × (List Int × Int × Int × Int × Int × Bool × Int × List PD × Bool × Int × Int)))) => f20j8_s x.1.1 x.1.2.1 x.1.2.2.1 x.2.1.1 x.2.1.2.1 x.2.1.2.2.1 x.2.1.2.2.2.1 x.2.1.2.2.2.2.1 x.2.1.2.2.2.2.2.1 x.2.1.2.2.2.2.2.2.1 x.2.1.2.2.2.2.2.2.2.1 x.2.1.2.2.2.2.2.2.2.2.1 x.2.1.2.2.2.2.2.2.2.2.2.1 x.2.1.2.2.2.2.2.2.2.2.2.2 x.2.2.1 x.2.2.2.1 x.2.2.2.2.1 x.2.2.2.2.2.1 x.2.2.2.2.2.2.1 x.2.2.2.2.2.2.2.1 x.2.2.2.2.2.2.2.2.1 x.2.2.2.2.2.2.2.2.2.1 x.2.2.2.2.2.2.2.2.2.2.1 x.2.2.2.2.2.2.2.2.2.2.2.1 x.2.2.2.2.2.2.2.2.2.2.2.2
theorem f20_b (a1 : List Int) (a2 : Int) (a3 : Int) (a4 : Int) (a5 : Int) (a6 : Bool) (a7 : Int) (a8 : List PD) (a9 : Bool) (a10 : Int) (a11 : Int) (a12 : Int) (a13 : Int) (a14 : Int) : bodyC Try.prog f20C f20F ((11, toldL f20l11p f20l11x f20l11) :: []) ((8, toldJ f20j8p f20j8x f20j8) :: ((25, toldJ f20j25p f20j25x f20j25) :: ((19, toldJ f20j19p f20j19x f20j19) :: ((22, toldJ f20j22p f20j22x f20j22) :: [])))) { keep := [] } 20 (.cons (.agg (.cons (.nums .u8) (.cons (.int .i64) (.cons (.int .u64) (.cons (.int .u64) (.cons (.int .i64) (.cons .bool (.cons (.int .u64) (.cons (.sl 2) (.cons .bool (.cons (.int .i64) (.int .i64)))))))))))) (.cons (.int .i64) (.cons (.int .i64) (.int .i64)))) [] (.tup (.cons (.agg (.cons (.nums .u8) (.cons (.int .i64) (.cons (.int .u64) (.cons (.int .u64) (.cons (.int .i64) (.cons .bool (.cons (.int .u64) (.cons (.sl 2) (.cons .bool (.cons (.int .i64) (.int .i64)))))))))))) (.int .i64))) [] ((a1, a2, a3, a4, a5, a6, a7, a8, a9, a10, a11), a12, a13, a14) _ some = f20 a1 a2 a3 a4 a5 a6 a7 a8 a9 a10 a11 a12 a13 a14 := by kernel_rfl
noncomputable def f20W (x : TyA (.cons (.agg (.cons (.nums .u8) (.cons (.int .i64) (.cons (.int .u64) (.cons (.int .u64) (.cons (.int .i64) (.cons .bool (.cons (.int .u64) (.cons (.sl 2) (.cons .bool (.cons (.int .i64) (.int .i64)))))))))))) (.cons (.int .i64) (.cons (.int .i64) (.int .i64)))) []) : Option (TyR (.tup (.cons (.agg (.cons (.nums .u8) (.cons (.int .i64) (.cons (.int .u64) (.cons (.int .u64) (.cons (.int .i64) (.cons .bool (.cons (.int .u64) (.cons (.sl 2) (.cons .bool (.cons (.int .i64) (.int .i64)))))))))))) (.int .i64))) []) := f20 x.1.1 x.1.2.1 x.1.2.2.1 x.1.2.2.2.1 x.1.2.2.2.2.1 x.1.2.2.2.2.2.1 x.1.2.2.2.2.2.2.1 x.1.2.2.2.2.2.2.2.1 x.1.2.2.2.2.2.2.2.2.1 x.1.2.2.2.2.2.2.2.2.2.1 x.1.2.2.2.2.2.2.2.2.2.2 x.2.1 x.2.2.1 x.2.2.2
theorem f20_ok : EntOK Try.prog 20 (ent (.cons (.agg (.cons (.nums .u8) (.cons (.int .i64) (.cons (.int .u64) (.cons (.int .u64) (.cons (.int .i64) (.cons .bool (.cons (.int .u64) (.cons (.sl 2) (.cons .bool (.cons (.int .i64) (.int .i64)))))))))))) (.cons (.int .i64) (.cons (.int .i64) (.int .i64)))) [] (.tup (.cons (.agg (.cons (.nums .u8) (.cons (.int .i64) (.cons (.int .u64) (.cons (.int .u64) (.cons (.int .i64) (.cons .bool (.cons (.int .u64) (.cons (.sl 2) (.cons .bool (.cons (.int .i64) (.int .i64)))))))))))) (.int .i64))) [] f20W) :=
  ent_ok f20F f20C_ok (hp := []) (fn := Try.f20) (by kernel_rfl) f20j8_t fun (x : ((List Int × Int × Int × Int × Int × Bool × Int × List PD × Bool × Int × Int) × Int × Int × Int)) => f20_b x.1.1 x.1.2.1 x.1.2.2.1 x.1.2.2.2.1 x.1.2.2.2.2.1 x.1.2.2.2.2.2.1 x.1.2.2.2.2.2.2.1 x.1.2.2.2.2.2.2.2.1 x.1.2.2.2.2.2.2.2.2.1 x.1.2.2.2.2.2.2.2.2.2.1 x.1.2.2.2.2.2.2.2.2.2.2 x.2.1 x.2.2.1 x.2.2.2

/-! f36: passkey/passkeyref29.SameRanges -/
noncomputable def f36l4p : SP := { n := 26, ix := [0, 1, 5], p := (.cons (.sl 2) (.cons (.sl 2) (.int .i64))) }
noncomputable def f36l4x : List (Ex × SP) := [(.ret, { n := 26, ix := [4], p := .bool }), ((.exit 0), { n := 26, ix := [], p := .nil })]
noncomputable def f36l4 : (List PD × List PD × Int) → Option ((List PD × List PD × Int) ⊕ (Bool ⊕ Unit)) := fun s => match s with
  | (a1, a2, a3) =>
    cond (decide (a3 < (((a1.length) : Nat) : Int))) (
      Option.bind (getI a1 a3) fun y1 =>
      Option.bind (PD.intAt .i64 y1 0) fun y2 =>
      Option.bind (PD.intAt .i64 y1 1) fun y3 =>
      Option.bind (getI a2 a3) fun y4 =>
      Option.bind (PD.intAt .i64 y4 0) fun y5 =>
      Option.bind (PD.intAt .i64 y4 1) fun y6 =>
      cond (!((y2 == y5) && ((y3 == y6) && true))) (
        some (.inr (.inl false))) (
        some (.inl (a1, a2, (IntKind.i64.wrap (a3 + 1)))))) (
      some (.inr (.inr ())))
noncomputable def f36 (a1 : List PD) (a2 : List PD) : Option Bool :=
  cond ((((a1.length) : Nat) : Int) != (((a2.length) : Nat) : Int)) (
    some false) (
    Option.bind (loopFix f36l4 (a1, a2, 0)) fun y1 =>
    match y1 with
    | (.inl y2) =>
      some y2
    | (.inr y3) =>
      some true)
noncomputable def f36C : Cal := tbl []
theorem f36C_ok : CalOK Try.prog f36C ∧ CalNt f36C := tbl_ok (by intro p hp; simp at hp)
noncomputable def f36F : FH := { loops := [(4, { keep := [0, 1, 5] }, { keep := [4] })] }
theorem f36l4_s (a1 : List PD) (a2 : List PD) (a3 : Int) : stepC Try.prog f36C f36F [] [] 0 ((loopsAt 4 (codeOf Try.f36)).headD .skip) f36l4p f36l4x { keep := [0, 1, 5] } { keep := [4] } (a1, a2, a3) _ some = f36l4 (a1, a2, a3) := by kernel_rfl
theorem f36l4_t : ToldC Try.prog 0 (codeOf Try.f36) ((4, toldL f36l4p f36l4x f36l4) :: []) [] :=
  ToldC.loop f36F 0 (ToldC.nil 0) f36C_ok 4 ((loopsAt 4 (codeOf Try.f36)).headD .skip) (by kernel_rfl) (p := f36l4p) (px := f36l4x) (g := f36l4) (hi := { keep := [0, 1, 5] }) (ho := { keep := [4] }) (by kernel_rfl) fun (x : (List PD × List PD × Int)) => f36l4_s x.1 x.2.1 x.2.2
theorem f36_b (a1 : List PD) (a2 : List PD) : bodyC Try.prog f36C f36F ((4, toldL f36l4p f36l4x f36l4) :: []) [] { keep := [] } 36 (.cons (.sl 2) (.sl 2)) [] .bool [] (a1, a2) _ some = f36 a1 a2 := by kernel_rfl
noncomputable def f36W (x : TyA (.cons (.sl 2) (.sl 2)) []) : Option (TyR .bool []) := f36 x.1 x.2
theorem f36_ok : EntOK Try.prog 36 (ent (.cons (.sl 2) (.sl 2)) [] .bool [] f36W) :=
  ent_ok f36F f36C_ok (hp := []) (fn := Try.f36) (by kernel_rfl) f36l4_t fun (x : (List PD × List PD)) => f36_b x.1 x.2

/-! f21: passkey/passkeyref29.SameStored -/
noncomputable def f21 (a1 : List Int) (a2 : Int) (a3 : Int) (a4 : Int) (a5 : Int) (a6 : Bool) (a7 : Int) (a8 : List PD) (a9 : Bool) (a10 : Int) (a11 : Int) (a12 : List Int) (a13 : Int) (a14 : Int) (a15 : Int) (a16 : Int) (a17 : Bool) (a18 : Int) (a19 : List PD) (a20 : Bool) (a21 : Int) (a22 : Int) : Option Bool :=
  cond (strEq (strOf a1) (strOf a12)) (
    cond ((a2 == a13) && ((a3 == a14) && true)) (
      cond (a4 == a15) (
        cond (a5 == a16) (
          cond (a6 == a17) (
            cond (a7 == a18) (
              Option.bind (f36 a8 a19) fun y1 =>
              cond y1 (
                cond (a9 == a20) (
                  cond (a10 == a21) (
                    some (a11 == a22)) (
                    some false)) (
                  some false)) (
                some false)) (
              some false)) (
            some false)) (
          some false)) (
        some false)) (
      some false)) (
    some false)
noncomputable def f21C : Cal := tbl [(36, (ent (.cons (.sl 2) (.sl 2)) [] .bool [] f36W))]
theorem f21C_ok : CalOK Try.prog f21C ∧ CalNt f21C := tbl_ok (by
  intro p hp
  simp only [List.mem_cons, List.not_mem_nil, or_false] at hp
  rcases hp with rfl
  exact f36_ok)
noncomputable def f21F : FH := {}
theorem f21_b (a1 : List Int) (a2 : Int) (a3 : Int) (a4 : Int) (a5 : Int) (a6 : Bool) (a7 : Int) (a8 : List PD) (a9 : Bool) (a10 : Int) (a11 : Int) (a12 : List Int) (a13 : Int) (a14 : Int) (a15 : Int) (a16 : Int) (a17 : Bool) (a18 : Int) (a19 : List PD) (a20 : Bool) (a21 : Int) (a22 : Int) : bodyC Try.prog f21C f21F [] [] { keep := [] } 21 (.cons (.agg (.cons (.nums .u8) (.cons (.int .i64) (.cons (.int .u64) (.cons (.int .u64) (.cons (.int .i64) (.cons .bool (.cons (.int .u64) (.cons (.sl 2) (.cons .bool (.cons (.int .i64) (.int .i64)))))))))))) (.agg (.cons (.nums .u8) (.cons (.int .i64) (.cons (.int .u64) (.cons (.int .u64) (.cons (.int .i64) (.cons .bool (.cons (.int .u64) (.cons (.sl 2) (.cons .bool (.cons (.int .i64) (.int .i64))))))))))))) [] .bool [] ((a1, a2, a3, a4, a5, a6, a7, a8, a9, a10, a11), (a12, a13, a14, a15, a16, a17, a18, a19, a20, a21, a22)) _ some = f21 a1 a2 a3 a4 a5 a6 a7 a8 a9 a10 a11 a12 a13 a14 a15 a16 a17 a18 a19 a20 a21 a22 := by kernel_rfl
noncomputable def f21W (x : TyA (.cons (.agg (.cons (.nums .u8) (.cons (.int .i64) (.cons (.int .u64) (.cons (.int .u64) (.cons (.int .i64) (.cons .bool (.cons (.int .u64) (.cons (.sl 2) (.cons .bool (.cons (.int .i64) (.int .i64)))))))))))) (.agg (.cons (.nums .u8) (.cons (.int .i64) (.cons (.int .u64) (.cons (.int .u64) (.cons (.int .i64) (.cons .bool (.cons (.int .u64) (.cons (.sl 2) (.cons .bool (.cons (.int .i64) (.int .i64))))))))))))) []) : Option (TyR .bool []) := f21 x.1.1 x.1.2.1 x.1.2.2.1 x.1.2.2.2.1 x.1.2.2.2.2.1 x.1.2.2.2.2.2.1 x.1.2.2.2.2.2.2.1 x.1.2.2.2.2.2.2.2.1 x.1.2.2.2.2.2.2.2.2.1 x.1.2.2.2.2.2.2.2.2.2.1 x.1.2.2.2.2.2.2.2.2.2.2 x.2.1 x.2.2.1 x.2.2.2.1 x.2.2.2.2.1 x.2.2.2.2.2.1 x.2.2.2.2.2.2.1 x.2.2.2.2.2.2.2.1 x.2.2.2.2.2.2.2.2.1 x.2.2.2.2.2.2.2.2.2.1 x.2.2.2.2.2.2.2.2.2.2.1 x.2.2.2.2.2.2.2.2.2.2.2
theorem f21_ok : EntOK Try.prog 21 (ent (.cons (.agg (.cons (.nums .u8) (.cons (.int .i64) (.cons (.int .u64) (.cons (.int .u64) (.cons (.int .i64) (.cons .bool (.cons (.int .u64) (.cons (.sl 2) (.cons .bool (.cons (.int .i64) (.int .i64)))))))))))) (.agg (.cons (.nums .u8) (.cons (.int .i64) (.cons (.int .u64) (.cons (.int .u64) (.cons (.int .i64) (.cons .bool (.cons (.int .u64) (.cons (.sl 2) (.cons .bool (.cons (.int .i64) (.int .i64))))))))))))) [] .bool [] f21W) :=
  ent_ok f21F f21C_ok (hp := []) (fn := Try.f21) (by kernel_rfl) (ToldC.nil 0) fun (x : ((List Int × Int × Int × Int × Int × Bool × Int × List PD × Bool × Int × Int) × (List Int × Int × Int × Int × Int × Bool × Int × List PD × Bool × Int × Int))) => f21_b x.1.1 x.1.2.1 x.1.2.2.1 x.1.2.2.2.1 x.1.2.2.2.2.1 x.1.2.2.2.2.2.1 x.1.2.2.2.2.2.2.1 x.1.2.2.2.2.2.2.2.1 x.1.2.2.2.2.2.2.2.2.1 x.1.2.2.2.2.2.2.2.2.2.1 x.1.2.2.2.2.2.2.2.2.2.2 x.2.1 x.2.2.1 x.2.2.2.1 x.2.2.2.2.1 x.2.2.2.2.2.1 x.2.2.2.2.2.2.1 x.2.2.2.2.2.2.2.1 x.2.2.2.2.2.2.2.2.1 x.2.2.2.2.2.2.2.2.2.1 x.2.2.2.2.2.2.2.2.2.2.1 x.2.2.2.2.2.2.2.2.2.2.2

/-! f9: (*passkey/passkeycast.Deck).Left -/
noncomputable def f9 (a1 : List Int) (a2 : Int) : Option (Bool × (List Int × Int)) :=
  some ((decide (a2 < (((a1.length) : Nat) : Int))), (a1, a2))
noncomputable def f9C : Cal := tbl []
theorem f9C_ok : CalOK Try.prog f9C ∧ CalNt f9C := tbl_ok (by intro p hp; simp at hp)
noncomputable def f9F : FH := {}
theorem f9_b (a1 : List Int) (a2 : Int) : bodyC Try.prog f9C f9F [] [] { keep := [] } 9 (.ptr 0 0) [(.cells (.cons (.nums .i64) (.int .i64)))] .bool [(.cells (.cons (.nums .i64) (.int .i64)))] ((), (a1, a2)) _ some = f9 a1 a2 := by kernel_rfl
noncomputable def f9W (x : TyA (.ptr 0 0) [(.cells (.cons (.nums .i64) (.int .i64)))]) : Option (TyR .bool [(.cells (.cons (.nums .i64) (.int .i64)))]) := f9 x.2.1 x.2.2
theorem f9_ok : EntOK Try.prog 9 (ent (.ptr 0 0) [(.cells (.cons (.nums .i64) (.int .i64)))] .bool [(.cells (.cons (.nums .i64) (.int .i64)))] f9W) :=
  ent_ok f9F f9C_ok (hp := [(.cells (.cons (.nums .i64) (.int .i64)))]) (fn := Try.f9) (by kernel_rfl) (ToldC.nil 1) fun (x : (Unit × (List Int × Int))) => f9_b x.2.1 x.2.2

/-! f39: passkey/account.index -/
noncomputable def f39l2p : SP := { n := 23, ix := [1, 8, 9, 10], p := (.cons (.nums .u8) (.cons (.sl 11) (.cons (.int .i64) (.int .i64)))) }
noncomputable def f39l2x : List (Ex × SP) := [(.ret, { n := 23, ix := [4], p := (.int .i64) }), ((.exit 0), { n := 23, ix := [], p := .nil })]
noncomputable def f39l2 : (List Int × List PD × Int × Int) → Option ((List Int × List PD × Int × Int) ⊕ (Int ⊕ Unit)) := fun s => match s with
  | (a1, a2, a3, a4) =>
    cond (decide (a4 < a3)) (
      Option.bind (getI a2 a4) fun y1 =>
      Option.bind (PD.numsAt .u8 y1 0) fun y2 =>
      Option.bind (PD.intAt .i64 y1 1) fun y3 =>
      Option.bind (PD.intAt .u64 y1 2) fun y4 =>
      Option.bind (PD.intAt .u64 y1 3) fun y5 =>
      Option.bind (PD.intAt .i64 y1 4) fun y6 =>
      Option.bind (PD.boolAt y1 5) fun y7 =>
      Option.bind (PD.intAt .u64 y1 6) fun y8 =>
      Option.bind (PD.slAt 2 y1 7) fun y9 =>
      Option.bind (PD.boolAt y1 8) fun y10 =>
      Option.bind (PD.intAt .i64 y1 9) fun y11 =>
      Option.bind (PD.intAt .i64 y1 10) fun y12 =>
      cond (strEq (strOf y2) (strOf a1)) (
        some (.inr (.inl a4))) (
        some (.inl (a1, a2, a3, (IntKind.i64.wrap (a4 + 1)))))) (
      some (.inr (.inr ())))
noncomputable def f39 (a1 : ByteArray) (a2 : ByteArray) (a3 : List PD) (a4 : List Int) : Option Int :=
  Option.bind (loopFix f39l2 (a4, a3, (((a3.length) : Nat) : Int), 0)) fun y1 =>
  match y1 with
  | (.inl y2) =>
    some y2
  | (.inr y3) =>
    some (-1)
noncomputable def f39C : Cal := tbl []
theorem f39C_ok : CalOK Try.prog f39C ∧ CalNt f39C := tbl_ok (by intro p hp; simp at hp)
noncomputable def f39F : FH := { loops := [(2, { keep := [1, 8, 9, 10] }, { keep := [4] })] }
theorem f39l2_s (a1 : List Int) (a2 : List PD) (a3 : Int) (a4 : Int) : stepC Try.prog f39C f39F [] [] 0 ((loopsAt 2 (codeOf Try.f39)).headD .skip) f39l2p f39l2x { keep := [1, 8, 9, 10] } { keep := [4] } (a1, a2, a3, a4) _ some = f39l2 (a1, a2, a3, a4) := by kernel_rfl
theorem f39l2_t : ToldC Try.prog 0 (codeOf Try.f39) ((2, toldL f39l2p f39l2x f39l2) :: []) [] :=
  ToldC.loop f39F 0 (ToldC.nil 0) f39C_ok 2 ((loopsAt 2 (codeOf Try.f39)).headD .skip) (by kernel_rfl) (p := f39l2p) (px := f39l2x) (g := f39l2) (hi := { keep := [1, 8, 9, 10] }) (ho := { keep := [4] }) (by kernel_rfl) fun (x : (List Int × List PD × Int × Int)) => f39l2_s x.1 x.2.1 x.2.2.1 x.2.2.2
theorem f39_b (a1 : ByteArray) (a2 : ByteArray) (a3 : List PD) (a4 : List Int) : bodyC Try.prog f39C f39F ((2, toldL f39l2p f39l2x f39l2) :: []) [] { keep := [] } 39 (.cons (.agg (.cons .str (.cons .str (.sl 11)))) (.nums .u8)) [] (.int .i64) [] ((a1, a2, a3), a4) _ some = f39 a1 a2 a3 a4 := by kernel_rfl
noncomputable def f39W (x : TyA (.cons (.agg (.cons .str (.cons .str (.sl 11)))) (.nums .u8)) []) : Option (TyR (.int .i64) []) := f39 x.1.1 x.1.2.1 x.1.2.2 x.2
theorem f39_ok : EntOK Try.prog 39 (ent (.cons (.agg (.cons .str (.cons .str (.sl 11)))) (.nums .u8)) [] (.int .i64) [] f39W) :=
  ent_ok f39F f39C_ok (hp := []) (fn := Try.f39) (by kernel_rfl) f39l2_t fun (x : ((ByteArray × ByteArray × List PD) × List Int)) => f39_b x.1.1 x.1.2.1 x.1.2.2 x.2

/-! f23: passkey/account.Owner -/
noncomputable def f23l2p : SP := { n := 25, ix := [1, 10, 11, 12], p := (.cons (.nums .u8) (.cons (.sl 3) (.cons (.int .i64) (.int .i64)))) }
noncomputable def f23l2x : List (Ex × SP) := [(.ret, { n := 25, ix := [4, 5, 6], p := (.cons (.int .i64) (.cons (.int .i64) .bool)) }), ((.exit 0), { n := 25, ix := [], p := .nil })]
noncomputable def f23l2 : (List Int × List PD × Int × Int) → Option ((List Int × List PD × Int × Int) ⊕ ((Int × Int × Bool) ⊕ Unit)) := fun s => match s with
  | (a1, a2, a3, a4) =>
    cond (decide (a4 < a3)) (
      Option.bind (getI a2 a4) fun y1 =>
      Option.bind (PD.strAt y1 0) fun y2 =>
      Option.bind (PD.strAt y1 1) fun y3 =>
      Option.bind (PD.slAt 11 y1 2) fun y4 =>
      Option.bind (f39 y2 y3 y4 a1) fun y5 =>
      cond (decide (y5 ≥ 0)) (
        some (.inr (.inl (a4, y5, true)))) (
        some (.inl (a1, a2, a3, (IntKind.i64.wrap (a4 + 1)))))) (
      some (.inr (.inr ())))
noncomputable def f23 (a1 : List PD) (a2 : List Int) : Option (Int × Int × Bool) :=
  Option.bind (loopFix f23l2 (a2, a1, (((a1.length) : Nat) : Int), 0)) fun y1 =>
  match y1 with
  | (.inl y2) =>
    some (y2.1, y2.2.1, y2.2.2)
  | (.inr y3) =>
    some (0, 0, false)
noncomputable def f23C : Cal := tbl [(39, (ent (.cons (.agg (.cons .str (.cons .str (.sl 11)))) (.nums .u8)) [] (.int .i64) [] f39W))]
theorem f23C_ok : CalOK Try.prog f23C ∧ CalNt f23C := tbl_ok (by
  intro p hp
  simp only [List.mem_cons, List.not_mem_nil, or_false] at hp
  rcases hp with rfl
  exact f39_ok)
noncomputable def f23F : FH := { loops := [(2, { keep := [1, 10, 11, 12] }, { keep := [4, 5, 6] })] }
theorem f23l2_s (a1 : List Int) (a2 : List PD) (a3 : Int) (a4 : Int) : stepC Try.prog f23C f23F [] [] 0 ((loopsAt 2 (codeOf Try.f23)).headD .skip) f23l2p f23l2x { keep := [1, 10, 11, 12] } { keep := [4, 5, 6] } (a1, a2, a3, a4) _ some = f23l2 (a1, a2, a3, a4) := by kernel_rfl
theorem f23l2_t : ToldC Try.prog 0 (codeOf Try.f23) ((2, toldL f23l2p f23l2x f23l2) :: []) [] :=
  ToldC.loop f23F 0 (ToldC.nil 0) f23C_ok 2 ((loopsAt 2 (codeOf Try.f23)).headD .skip) (by kernel_rfl) (p := f23l2p) (px := f23l2x) (g := f23l2) (hi := { keep := [1, 10, 11, 12] }) (ho := { keep := [4, 5, 6] }) (by kernel_rfl) fun (x : (List Int × List PD × Int × Int)) => f23l2_s x.1 x.2.1 x.2.2.1 x.2.2.2
theorem f23_b (a1 : List PD) (a2 : List Int) : bodyC Try.prog f23C f23F ((2, toldL f23l2p f23l2x f23l2) :: []) [] { keep := [] } 23 (.cons (.sl 3) (.nums .u8)) [] (.tup (.cons (.int .i64) (.cons (.int .i64) .bool))) [] (a1, a2) _ some = f23 a1 a2 := by kernel_rfl
noncomputable def f23W (x : TyA (.cons (.sl 3) (.nums .u8)) []) : Option (TyR (.tup (.cons (.int .i64) (.cons (.int .i64) .bool))) []) := f23 x.1 x.2
theorem f23_ok : EntOK Try.prog 23 (ent (.cons (.sl 3) (.nums .u8)) [] (.tup (.cons (.int .i64) (.cons (.int .i64) .bool))) [] f23W) :=
  ent_ok f23F f23C_ok (hp := []) (fn := Try.f23) (by kernel_rfl) f23l2_t fun (x : (List PD × List Int)) => f23_b x.1 x.2

/-! f16: passkey/account.Find -/
noncomputable def f16l2p : SP := { n := 21, ix := [1, 8, 9, 10], p := (.cons .str (.cons (.sl 3) (.cons (.int .i64) (.int .i64)))) }
noncomputable def f16l2x : List (Ex × SP) := [(.ret, { n := 21, ix := [4, 5], p := (.cons (.int .i64) .bool) }), ((.exit 0), { n := 21, ix := [], p := .nil })]
noncomputable def f16l2 : (ByteArray × List PD × Int × Int) → Option ((ByteArray × List PD × Int × Int) ⊕ ((Int × Bool) ⊕ Unit)) := fun s => match s with
  | (a1, a2, a3, a4) =>
    cond (decide (a4 < a3)) (
      Option.bind (getI a2 a4) fun y1 =>
      Option.bind (PD.strAt y1 0) fun y2 =>
      Option.bind (PD.strAt y1 1) fun y3 =>
      Option.bind (PD.slAt 11 y1 2) fun y4 =>
      cond (strEq y2 a1) (
        some (.inr (.inl (a4, true)))) (
        some (.inl (a1, a2, a3, (IntKind.i64.wrap (a4 + 1)))))) (
      some (.inr (.inr ())))
noncomputable def f16 (a1 : List PD) (a2 : ByteArray) : Option (Int × Bool) :=
  Option.bind (loopFix f16l2 (a2, a1, (((a1.length) : Nat) : Int), 0)) fun y1 =>
  match y1 with
  | (.inl y2) =>
    some (y2.1, y2.2)
  | (.inr y3) =>
    some (0, false)
noncomputable def f16C : Cal := tbl []
theorem f16C_ok : CalOK Try.prog f16C ∧ CalNt f16C := tbl_ok (by intro p hp; simp at hp)
noncomputable def f16F : FH := { loops := [(2, { keep := [1, 8, 9, 10] }, { keep := [4, 5] })] }
theorem f16l2_s (a1 : ByteArray) (a2 : List PD) (a3 : Int) (a4 : Int) : stepC Try.prog f16C f16F [] [] 0 ((loopsAt 2 (codeOf Try.f16)).headD .skip) f16l2p f16l2x { keep := [1, 8, 9, 10] } { keep := [4, 5] } (a1, a2, a3, a4) _ some = f16l2 (a1, a2, a3, a4) := by kernel_rfl
theorem f16l2_t : ToldC Try.prog 0 (codeOf Try.f16) ((2, toldL f16l2p f16l2x f16l2) :: []) [] :=
  ToldC.loop f16F 0 (ToldC.nil 0) f16C_ok 2 ((loopsAt 2 (codeOf Try.f16)).headD .skip) (by kernel_rfl) (p := f16l2p) (px := f16l2x) (g := f16l2) (hi := { keep := [1, 8, 9, 10] }) (ho := { keep := [4, 5] }) (by kernel_rfl) fun (x : (ByteArray × List PD × Int × Int)) => f16l2_s x.1 x.2.1 x.2.2.1 x.2.2.2
theorem f16_b (a1 : List PD) (a2 : ByteArray) : bodyC Try.prog f16C f16F ((2, toldL f16l2p f16l2x f16l2) :: []) [] { keep := [] } 16 (.cons (.sl 3) .str) [] (.tup (.cons (.int .i64) .bool)) [] (a1, a2) _ some = f16 a1 a2 := by kernel_rfl
noncomputable def f16W (x : TyA (.cons (.sl 3) .str) []) : Option (TyR (.tup (.cons (.int .i64) .bool)) []) := f16 x.1 x.2
theorem f16_ok : EntOK Try.prog 16 (ent (.cons (.sl 3) .str) [] (.tup (.cons (.int .i64) .bool)) [] f16W) :=
  ent_ok f16F f16C_ok (hp := []) (fn := Try.f16) (by kernel_rfl) f16l2_t fun (x : (List PD × ByteArray)) => f16_b x.1 x.2

/-! f40: slices.Clone[[]passkey/api.Stored,passkey/api.Stored] -/
noncomputable def f40 (a1 : List PD) : Option (Unit × List PD) :=
  cond (List.isEmpty a1) (
    ambO (
      some ((), [])) (
      cond (decide ((([] ++ a1).length) * 120 ≤ 140737488355328)) (
        some ((), ([] ++ a1))) none)) (
    cond (decide ((([] ++ a1).length) * 120 ≤ 140737488355328)) (
      some ((), ([] ++ a1))) none)
noncomputable def f40C : Cal := tbl []
theorem f40C_ok : CalOK Try.prog f40C ∧ CalNt f40C := tbl_ok (by intro p hp; simp at hp)
noncomputable def f40F : FH := {}
theorem f40_b (a1 : List PD) : bodyC Try.prog f40C f40F [] [] { keep := [], own := [(0, 33)] } 40 (.sl 11) [] (.ref 0) [(.arrS 11 33 11)] a1 _ some = f40 a1 := by kernel_rfl
noncomputable def f40W (x : TyA (.sl 11) []) : Option (TyR (.ref 0) [(.arrS 11 33 11)]) := f40 x
theorem f40_ok : EntOK Try.prog 40 (ent (.sl 11) [] (.ref 0) [(.arrS 11 33 11)] f40W) :=
  ent_ok f40F f40C_ok (hp := []) (fn := Try.f40) (by kernel_rfl) (ToldC.nil 0) fun (x : List PD) => f40_b x

/-! f24: passkey/account.clone -/
noncomputable def f24l3p : SP := { n := 26, ix := [3, 9, 10, 11], p := (.cons (.ref 0) (.cons (.sl 3) (.cons (.int .i64) (.int .i64)))), hp := [(.arrS 3 48 3)] }
noncomputable def f24l3x : List (Ex × SP) := [((.exit 0), { n := 26, ix := [3], p := (.ref 0), hp := [(.arrS 3 48 3)] })]
noncomputable def f24l3 : ((Unit × List PD × Int × Int) × List PD) → Option (((Unit × List PD × Int × Int) × List PD) ⊕ (Unit × List PD)) := fun s => match s with
  | (((), a1, a2, a3), a4) =>
    cond (decide (a3 < a2)) (
      Option.bind (getI a1 a3) fun y1 =>
      Option.bind (PD.strAt y1 0) fun y2 =>
      Option.bind (PD.strAt y1 1) fun y3 =>
      Option.bind (PD.slAt 11 y1 2) fun y4 =>
      Option.bind (f40 y4) fun y5 =>
      cond (inRange a3 (a4.length)) (
        cond (decide ((Int.toNat a3) < (a4.length))) (
          some (.inl (((), a1, a2, (IntKind.i64.wrap (a3 + 1))), (a4.set (Int.toNat a3) (.agg [(.str y2), (.str y3), (.sl 11 y5.2)]))))) none) none) (
      some (.inr ((), a4)))
noncomputable def f24 (a1 : List PD) : Option (Unit × List PD) :=
  cond (decide (0 ≤ (((a1.length) : Nat) : Int)) && (decide ((((a1.length) : Nat) : Int) ≤ (((a1.length) : Nat) : Int)) && decide ((((a1.length) : Nat) : Int) * 56 ≤ 140737488355328))) (
    Option.bind (loopFix f24l3 (((), a1, (((a1.length) : Nat) : Int), 0), (List.replicate (Int.toNat (((a1.length) : Nat) : Int)) (.agg [(.str (bs [])), (.str (bs [])), (.opq (.slice none 0 0))])))) fun y1 =>
    some ((), y1.2)) none
noncomputable def f24C : Cal := tbl [(40, (ent (.sl 11) [] (.ref 0) [(.arrS 11 33 11)] f40W))]
theorem f24C_ok : CalOK Try.prog f24C ∧ CalNt f24C := tbl_ok (by
  intro p hp
  simp only [List.mem_cons, List.not_mem_nil, or_false] at hp
  rcases hp with rfl
  exact f40_ok)
noncomputable def f24F : FH := { loops := [(3, { keep := [3, 9, 10, 11] }, { keep := [2, 3] })] }
theorem f24l3_s (a1 : List PD) (a2 : Int) (a3 : Int) (a4 : List PD) : stepC Try.prog f24C f24F [] [] 0 ((loopsAt 3 (codeOf Try.f24)).headD .skip) f24l3p f24l3x { keep := [3, 9, 10, 11] } { keep := [2, 3] } (((), a1, a2, a3), a4) _ some = f24l3 (((), a1, a2, a3), a4) := by kernel_rfl
theorem f24l3_t : ToldC Try.prog 0 (codeOf Try.f24) ((3, toldL f24l3p f24l3x f24l3) :: []) [] :=
  ToldC.loop f24F 0 (ToldC.nil 0) f24C_ok 3 ((loopsAt 3 (codeOf Try.f24)).headD .skip) (by kernel_rfl) (p := f24l3p) (px := f24l3x) (g := f24l3) (hi := { keep := [3, 9, 10, 11] }) (ho := { keep := [2, 3] }) (by kernel_rfl) fun (x : ((Unit × List PD × Int × Int) × List PD)) => f24l3_s x.1.2.1 x.1.2.2.1 x.1.2.2.2 x.2
theorem f24_b (a1 : List PD) : bodyC Try.prog f24C f24F ((3, toldL f24l3p f24l3x f24l3) :: []) [] { keep := [] } 24 (.sl 3) [] (.ref 0) [(.arrS 3 48 3)] a1 _ some = f24 a1 := by kernel_rfl
noncomputable def f24W (x : TyA (.sl 3) []) : Option (TyR (.ref 0) [(.arrS 3 48 3)]) := f24 x
theorem f24_ok : EntOK Try.prog 24 (ent (.sl 3) [] (.ref 0) [(.arrS 3 48 3)] f24W) :=
  ent_ok f24F f24C_ok (hp := []) (fn := Try.f24) (by kernel_rfl) f24l3_t fun (x : List PD) => f24_b x

/-! f13: passkey/account.Enroll -/
noncomputable def f13j11p : SP := { n := 87, ix := [0, 1, 2, 7, 13, 14], p := (.cons (.sl 3) (.cons .str (.cons .str (.cons (.ptr 0 0) (.cons (.int .i64) .bool))))), hp := [(.cells (.cons (.nums .u8) (.cons (.int .i64) (.cons (.int .u64) (.cons (.int .u64) (.cons (.int .i64) (.cons .bool (.cons (.int .u64) (.cons (.sl 2) (.cons .bool (.cons (.int .i64) (.int .i64))))))))))))] }
noncomputable def f13j11x : List (Ex × SP) := [(.ret, { n := 87, ix := [8, 9], p := (.cons (.ref 0) (.int .i64)), hp := [(.arrS 3 48 3)] })]
noncomputable def f13j11 : ((List PD × ByteArray × ByteArray × Unit × Int × Bool) × (List Int × Int × Int × Int × Int × Bool × Int × List PD × Bool × Int × Int)) → Option ((Unit × Int) × List PD) := fun s => match s with
  | ((a1, a2, a3, (), a4, a5), (a6, a7, a8, a9, a10, a11, a12, a13, a14, a15, a16)) =>
    Option.bind (f24 a1) fun y1 =>
    cond (!a5) (
      cond (decide (((y1.2 ++ [(PD.agg [(.str a2), (.str a3), (.sl 11 [(PD.agg [(.nums .u8 a6), (.int .i64 a7), (.int .u64 a8), (.int .u64 a9), (.int .i64 a10), (.bool a11), (.int .u64 a12), (.sl 2 a13), (.bool a14), (.int .i64 a15), (.int .i64 a16)])])])]).length) * 56 ≤ 140737488355328)) (
        some (((), 0), (y1.2 ++ [(PD.agg [(.str a2), (.str a3), (.sl 11 [(PD.agg [(.nums .u8 a6), (.int .i64 a7), (.int .u64 a8), (.int .u64 a9), (.int .i64 a10), (.bool a11), (.int .u64 a12), (.sl 2 a13), (.bool a14), (.int .i64 a15), (.int .i64 a16)])])])]))) none) (
      cond (inRange a4 (y1.2.length)) (
        Option.bind (y1.2[(Int.toNat a4)]?) fun y2 =>
        Option.bind (PD.slAt 11 y2 2) fun y3 =>
        none) none)
noncomputable def f13j3p : SP := { n := 87, ix := [0, 1, 2, 7], p := (.cons (.sl 3) (.cons .str (.cons .str (.ptr 0 0)))), hp := [(.cells (.cons (.nums .u8) (.cons (.int .i64) (.cons (.int .u64) (.cons (.int .u64) (.cons (.int .i64) (.cons .bool (.cons (.int .u64) (.cons (.sl 2) (.cons .bool (.cons (.int .i64) (.int .i64))))))))))))] }
noncomputable def f13j3x : List (Ex × SP) := [(.ret, { n := 87, ix := [8, 9], p := (.cons (.ref 0) (.int .i64)), hp := [(.arrS 3 48 3)] })]
noncomputable def f13j3 : ((List PD × ByteArray × ByteArray × Unit) × (List Int × Int × Int × Int × Int × Bool × Int × List PD × Bool × Int × Int)) → Option ((Unit × Int) × List PD) := fun s => match s with
  | ((a1, a2, a3, ()), (a4, a5, a6, a7, a8, a9, a10, a11, a12, a13, a14)) =>
    cond ((((a4.length) : Nat) : Int) != 176) (
      some (((), 4), [])) (
      Option.bind (f23 a1 a4) fun y1 =>
      cond y1.2.2 (
        some (((), 10), [])) (
        Option.bind (f16 a1 a2) fun y2 =>
        cond y2.2 (
          Option.bind (getI a1 y2.1) fun y3 =>
          Option.bind (PD.slAt 11 y3 2) fun y4 =>
          cond (decide ((((y4.length) : Nat) : Int) ≥ 4)) (
            some (((), 12), [])) (
            cond (!y2.2) (
              cond (decide ((((a1.length) : Nat) : Int) ≥ 16)) (
                some (((), 12), [])) (
                Option.bind (f13j11 ((a1, a2, a3, (), y2.1, y2.2), (a4, a5, a6, a7, a8, a9, a10, a11, a12, a13, a14))) fun y5 =>
                some (((), y5.1.2), y5.2))) (
              Option.bind (f13j11 ((a1, a2, a3, (), y2.1, y2.2), (a4, a5, a6, a7, a8, a9, a10, a11, a12, a13, a14))) fun y6 =>
              some (((), y6.1.2), y6.2)))) (
          cond (!y2.2) (
            cond (decide ((((a1.length) : Nat) : Int) ≥ 16)) (
              some (((), 12), [])) (
              Option.bind (f13j11 ((a1, a2, a3, (), y2.1, y2.2), (a4, a5, a6, a7, a8, a9, a10, a11, a12, a13, a14))) fun y7 =>
              some (((), y7.1.2), y7.2))) (
            Option.bind (f13j11 ((a1, a2, a3, (), y2.1, y2.2), (a4, a5, a6, a7, a8, a9, a10, a11, a12, a13, a14))) fun y8 =>
            some (((), y8.1.2), y8.2)))))
noncomputable def f13 (a1 : List PD) (a2 : ByteArray) (a3 : ByteArray) (a4 : List Int) (a5 : Int) (a6 : Int) (a7 : Int) (a8 : Int) (a9 : Bool) (a10 : Int) (a11 : List PD) (a12 : Bool) (a13 : Int) (a14 : Int) : Option ((Unit × Int) × List PD) :=
  cond (decide ((((a2.size) : Nat) : Int) < 1)) (
    some (((), 9), [])) (
    cond (decide ((((a2.size) : Nat) : Int) > 32)) (
      some (((), 9), [])) (
      Option.bind (f13j3 ((a1, a2, a3, ()), (a4, a5, a6, a7, a8, a9, a10, a11, a12, a13, a14))) fun y1 =>
      some (((), y1.1.2), y1.2)))
noncomputable def f13C : Cal := tbl [(23, (ent (.cons (.sl 3) (.nums .u8)) [] (.tup (.cons (.int .i64) (.cons (.int .i64) .bool))) [] f23W)), (16, (ent (.cons (.sl 3) .str) [] (.tup (.cons (.int .i64) .bool)) [] f16W)), (24, (ent (.sl 3) [] (.ref 0) [(.arrS 3 48 3)] f24W))]
theorem f13C_ok : CalOK Try.prog f13C ∧ CalNt f13C := tbl_ok (by
  intro p hp
  simp only [List.mem_cons, List.not_mem_nil, or_false] at hp
  rcases hp with rfl | rfl | rfl
  · exact f23_ok
  · exact f16_ok
  · exact f24_ok)
noncomputable def f13F : FH := { join := [(11, { keep := [0, 1, 2, 7, 13, 14] }), (3, { keep := [0, 1, 2, 7] })] }
theorem f13j11_s (a1 : List PD) (a2 : ByteArray) (a3 : ByteArray) (a4 : Int) (a5 : Bool) (a6 : List Int) (a7 : Int) (a8 : Int) (a9 : Int) (a10 : Int) (a11 : Bool) (a12 : Int) (a13 : List PD) (a14 : Bool) (a15 : Int) (a16 : Int) : joinC Try.prog f13C f13F [] [] 0 ((joinsAt 11 (codeOf Try.f13)).headD .skip) f13j11p f13j11x { keep := [8, 9] } ((a1, a2, a3, (), a4, a5), (a6, a7, a8, a9, a10, a11, a12, a13, a14, a15, a16)) _ some = f13j11 ((a1, a2, a3, (), a4, a5), (a6, a7, a8, a9, a10, a11, a12, a13, a14, a15, a16)) := by kernel_rfl
theorem f13j11_t : ToldC Try.prog 0 (codeOf Try.f13) [] ((11, toldJ f13j11p f13j11x f13j11) :: []) :=
  ToldC.join f13F 0 (ToldC.nil 0) f13C_ok 11 ((joinsAt 11 (codeOf Try.f13)).headD .skip) (by kernel_rfl) (p := f13j11p) (px := f13j11x) (g := f13j11) (ho := { keep := [8, 9] }) fun (x : ((List PD × ByteArray × ByteArray × Unit × Int × Bool) × (List Int × Int × Int × Int × Int × Bool × Int × List PD × Bool × Int × Int))) => f13j11_s x.1.1 x.1.2.1 x.1.2.2.1 x.1.2.2.2.2.1 x.1.2.2.2.2.2 x.2.1 x.2.2.1 x.2.2.2.1 x.2.2.2.2.1 x.2.2.2.2.2.1 x.2.2.2.2.2.2.1 x.2.2.2.2.2.2.2.1 x.2.2.2.2.2.2.2.2.1 x.2.2.2.2.2.2.2.2.2.1 x.2.2.2.2.2.2.2.2.2.2.1 x.2.2.2.2.2.2.2.2.2.2.2
theorem f13j3_s (a1 : List PD) (a2 : ByteArray) (a3 : ByteArray) (a4 : List Int) (a5 : Int) (a6 : Int) (a7 : Int) (a8 : Int) (a9 : Bool) (a10 : Int) (a11 : List PD) (a12 : Bool) (a13 : Int) (a14 : Int) : joinC Try.prog f13C f13F [] ((11, toldJ f13j11p f13j11x f13j11) :: []) 0 ((joinsAt 3 (codeOf Try.f13)).headD .skip) f13j3p f13j3x { keep := [8, 9], own := [(8, 48)] } ((a1, a2, a3, ()), (a4, a5, a6, a7, a8, a9, a10, a11, a12, a13, a14)) _ some = f13j3 ((a1, a2, a3, ()), (a4, a5, a6, a7, a8, a9, a10, a11, a12, a13, a14)) := by kernel_rfl
theorem f13j3_t : ToldC Try.prog 0 (codeOf Try.f13) [] ((3, toldJ f13j3p f13j3x f13j3) :: ((11, toldJ f13j11p f13j11x f13j11) :: [])) :=
  ToldC.join f13F 0 f13j11_t f13C_ok 3 ((joinsAt 3 (codeOf Try.f13)).headD .skip) (by kernel_rfl) (p := f13j3p) (px := f13j3x) (g := f13j3) (ho := { keep := [8, 9], own := [(8, 48)] }) fun (x : ((List PD × ByteArray × ByteArray × Unit) × (List Int × Int × Int × Int × Int × Bool × Int × List PD × Bool × Int × Int))) => f13j3_s x.1.1 x.1.2.1 x.1.2.2.1 x.2.1 x.2.2.1 x.2.2.2.1 x.2.2.2.2.1 x.2.2.2.2.2.1 x.2.2.2.2.2.2.1 x.2.2.2.2.2.2.2.1 x.2.2.2.2.2.2.2.2.1 x.2.2.2.2.2.2.2.2.2.1 x.2.2.2.2.2.2.2.2.2.2.1 x.2.2.2.2.2.2.2.2.2.2.2
theorem f13_b (a1 : List PD) (a2 : ByteArray) (a3 : ByteArray) (a4 : List Int) (a5 : Int) (a6 : Int) (a7 : Int) (a8 : Int) (a9 : Bool) (a10 : Int) (a11 : List PD) (a12 : Bool) (a13 : Int) (a14 : Int) : bodyC Try.prog f13C f13F [] ((3, toldJ f13j3p f13j3x f13j3) :: ((11, toldJ f13j11p f13j11x f13j11) :: [])) { keep := [], own := [(0, 48)] } 13 (.cons (.sl 3) (.cons .str (.cons .str (.agg (.cons (.nums .u8) (.cons (.int .i64) (.cons (.int .u64) (.cons (.int .u64) (.cons (.int .i64) (.cons .bool (.cons (.int .u64) (.cons (.sl 2) (.cons .bool (.cons (.int .i64) (.int .i64))))))))))))))) [] (.tup (.cons (.ref 0) (.int .i64))) [(.arrS 3 48 3)] (a1, a2, a3, (a4, a5, a6, a7, a8, a9, a10, a11, a12, a13, a14)) _ some = f13 a1 a2 a3 a4 a5 a6 a7 a8 a9 a10 a11 a12 a13 a14 := by kernel_rfl
noncomputable def f13W (x : TyA (.cons (.sl 3) (.cons .str (.cons .str (.agg (.cons (.nums .u8) (.cons (.int .i64) (.cons (.int .u64) (.cons (.int .u64) (.cons (.int .i64) (.cons .bool (.cons (.int .u64) (.cons (.sl 2) (.cons .bool (.cons (.int .i64) (.int .i64))))))))))))))) []) : Option (TyR (.tup (.cons (.ref 0) (.int .i64))) [(.arrS 3 48 3)]) := f13 x.1 x.2.1 x.2.2.1 x.2.2.2.1 x.2.2.2.2.1 x.2.2.2.2.2.1 x.2.2.2.2.2.2.1 x.2.2.2.2.2.2.2.1 x.2.2.2.2.2.2.2.2.1 x.2.2.2.2.2.2.2.2.2.1 x.2.2.2.2.2.2.2.2.2.2.1 x.2.2.2.2.2.2.2.2.2.2.2.1 x.2.2.2.2.2.2.2.2.2.2.2.2.1 x.2.2.2.2.2.2.2.2.2.2.2.2.2
theorem f13_ok : EntOK Try.prog 13 (ent (.cons (.sl 3) (.cons .str (.cons .str (.agg (.cons (.nums .u8) (.cons (.int .i64) (.cons (.int .u64) (.cons (.int .u64) (.cons (.int .i64) (.cons .bool (.cons (.int .u64) (.cons (.sl 2) (.cons .bool (.cons (.int .i64) (.int .i64))))))))))))))) [] (.tup (.cons (.ref 0) (.int .i64))) [(.arrS 3 48 3)] f13W) :=
  ent_ok f13F f13C_ok (hp := []) (fn := Try.f13) (by kernel_rfl) f13j3_t fun (x : (List PD × ByteArray × ByteArray × (List Int × Int × Int × Int × Int × Bool × Int × List PD × Bool × Int × Int))) => f13_b x.1 x.2.1 x.2.2.1 x.2.2.2.1 x.2.2.2.2.1 x.2.2.2.2.2.1 x.2.2.2.2.2.2.1 x.2.2.2.2.2.2.2.1 x.2.2.2.2.2.2.2.2.1 x.2.2.2.2.2.2.2.2.2.1 x.2.2.2.2.2.2.2.2.2.2.1 x.2.2.2.2.2.2.2.2.2.2.2.1 x.2.2.2.2.2.2.2.2.2.2.2.2.1 x.2.2.2.2.2.2.2.2.2.2.2.2.2

/-! f25: slices.Clone[[]byte,byte] -/
noncomputable def f25 (a1 : List Int) : Option (Unit × List Int) :=
  cond (List.isEmpty a1) (
    ambO (
      some ((), [])) (
      cond (decide ((([] ++ a1).length) * 1 ≤ 140737488355328)) (
        some ((), ([] ++ a1))) none)) (
    cond (decide ((([] ++ a1).length) * 1 ≤ 140737488355328)) (
      some ((), ([] ++ a1))) none)
noncomputable def f25C : Cal := tbl []
theorem f25C_ok : CalOK Try.prog f25C ∧ CalNt f25C := tbl_ok (by intro p hp; simp at hp)
noncomputable def f25F : FH := {}
theorem f25_b (a1 : List Int) : bodyC Try.prog f25C f25F [] [] { keep := [], own := [(0, 5)] } 25 (.nums .u8) [] (.ref 0) [(.arrN 1 5 .u8)] a1 _ some = f25 a1 := by kernel_rfl
noncomputable def f25W (x : TyA (.nums .u8) []) : Option (TyR (.ref 0) [(.arrN 1 5 .u8)]) := f25 x
theorem f25_ok : EntOK Try.prog 25 (ent (.nums .u8) [] (.ref 0) [(.arrN 1 5 .u8)] f25W) :=
  ent_ok f25F f25C_ok (hp := []) (fn := Try.f25) (by kernel_rfl) (ToldC.nil 0) fun (x : List Int) => f25_b x

/-! f50: passkey/digest.little -/
noncomputable def f50l3p : SP := { n := 22, ix := [3, 6, 7, 8], p := (.cons (.int .u64) (.cons (.nums .u8) (.cons (.int .i64) (.int .i64)))) }
noncomputable def f50l3x : List (Ex × SP) := [((.exit 0), { n := 22, ix := [3], p := (.int .u64) })]
noncomputable def f50l3 : (Int × List Int × Int × Int) → Option ((Int × List Int × Int × Int) ⊕ Int) := fun s => match s with
  | (a1, a2, a3, a4) =>
    cond (decide (a4 < a3)) (
      Option.bind (getI a2 a4) fun y1 =>
      cond (decide (0 ≤ (IntKind.i64.wrap (8 * a4)))) (
        some (.inl ((bitsI .or .u64 a1 (shlI .u64 (IntKind.u64.wrap y1) (IntKind.i64.wrap (8 * a4)))), a2, a3, (IntKind.i64.wrap (a4 + 1))))) none) (
      some (.inr a1))
noncomputable def f50 (a1 : List Int) : Option Int :=
  Option.bind (loopFix f50l3 (0, a1, (((a1.length) : Nat) : Int), 0)) fun y1 =>
  some y1
noncomputable def f50C : Cal := tbl []
theorem f50C_ok : CalOK Try.prog f50C ∧ CalNt f50C := tbl_ok (by intro p hp; simp at hp)
noncomputable def f50F : FH := { loops := [(3, { keep := [3, 6, 7, 8] }, { keep := [2, 3] })] }
theorem f50l3_s (a1 : Int) (a2 : List Int) (a3 : Int) (a4 : Int) : stepC Try.prog f50C f50F [] [] 0 ((loopsAt 3 (codeOf Try.f50)).headD .skip) f50l3p f50l3x { keep := [3, 6, 7, 8] } { keep := [2, 3] } (a1, a2, a3, a4) _ some = f50l3 (a1, a2, a3, a4) := by kernel_rfl
theorem f50l3_t : ToldC Try.prog 0 (codeOf Try.f50) ((3, toldL f50l3p f50l3x f50l3) :: []) [] :=
  ToldC.loop f50F 0 (ToldC.nil 0) f50C_ok 3 ((loopsAt 3 (codeOf Try.f50)).headD .skip) (by kernel_rfl) (p := f50l3p) (px := f50l3x) (g := f50l3) (hi := { keep := [3, 6, 7, 8] }) (ho := { keep := [2, 3] }) (by kernel_rfl) fun (x : (Int × List Int × Int × Int)) => f50l3_s x.1 x.2.1 x.2.2.1 x.2.2.2
theorem f50_b (a1 : List Int) : bodyC Try.prog f50C f50F ((3, toldL f50l3p f50l3x f50l3) :: []) [] { keep := [] } 50 (.nums .u8) [] (.int .u64) [] a1 _ some = f50 a1 := by kernel_rfl
noncomputable def f50W (x : TyA (.nums .u8) []) : Option (TyR (.int .u64) []) := f50 x
theorem f50_ok : EntOK Try.prog 50 (ent (.nums .u8) [] (.int .u64) [] f50W) :=
  ent_ok f50F f50C_ok (hp := []) (fn := Try.f50) (by kernel_rfl) f50l3_t fun (x : List Int) => f50_b x

/-! f65: math/bits.RotateLeft64 -/
noncomputable def f65 (a1 : Int) (a2 : Int) : Option Int :=
  cond (decide (0 ≤ (bitsI .and .u64 (IntKind.u64.wrap a2) 63))) (
    cond (decide (0 ≤ (IntKind.u64.wrap (64 - (bitsI .and .u64 (IntKind.u64.wrap a2) 63))))) (
      some (bitsI .or .u64 (shlI .u64 a1 (bitsI .and .u64 (IntKind.u64.wrap a2) 63)) (shrI .u64 a1 (IntKind.u64.wrap (64 - (bitsI .and .u64 (IntKind.u64.wrap a2) 63)))))) none) none
noncomputable def f65C : Cal := tbl []
theorem f65C_ok : CalOK Try.prog f65C ∧ CalNt f65C := tbl_ok (by intro p hp; simp at hp)
noncomputable def f65F : FH := {}
theorem f65_b (a1 : Int) (a2 : Int) : bodyC Try.prog f65C f65F [] [] { keep := [] } 65 (.cons (.int .u64) (.int .i64)) [] (.int .u64) [] (a1, a2) _ some = f65 a1 a2 := by kernel_rfl
noncomputable def f65W (x : TyA (.cons (.int .u64) (.int .i64)) []) : Option (TyR (.int .u64) []) := f65 x.1 x.2
theorem f65_ok : EntOK Try.prog 65 (ent (.cons (.int .u64) (.int .i64)) [] (.int .u64) [] f65W) :=
  ent_ok f65F f65C_ok (hp := []) (fn := Try.f65) (by kernel_rfl) (ToldC.nil 0) fun (x : (Int × Int)) => f65_b x.1 x.2

/-! f51: (*passkey/digest.state).round -/
noncomputable def f51l1p : SP := { n := 120, ix := [0, 4, 5], p := (.cons (.ptr 0 0) (.cons (.int .i64) (.int .i64))), hp := [(.cells (.cons (.int .u64) (.cons (.int .u64) (.cons (.int .u64) (.int .u64)))))] }
noncomputable def f51l1x : List (Ex × SP) := [((.exit 0), { n := 120, ix := [], p := .nil, hp := [(.cells (.cons (.int .u64) (.cons (.int .u64) (.cons (.int .u64) (.int .u64)))))] })]
noncomputable def f51l1 : ((Unit × Int × Int) × (Int × Int × Int × Int)) → Option (((Unit × Int × Int) × (Int × Int × Int × Int)) ⊕ (Unit × (Int × Int × Int × Int))) := fun s => match s with
  | (((), a1, a2), (a3, a4, a5, a6)) =>
    cond (decide (a2 < a1)) (
      Option.bind (f65 a4 13) fun y1 =>
      Option.bind (f65 (IntKind.u64.wrap (a3 + a4)) 32) fun y2 =>
      Option.bind (f65 a6 16) fun y3 =>
      Option.bind (f65 (bitsI .xor .u64 y3 (IntKind.u64.wrap (a5 + a6))) 21) fun y4 =>
      Option.bind (f65 (bitsI .xor .u64 y1 (IntKind.u64.wrap (a3 + a4))) 17) fun y5 =>
      Option.bind (f65 (IntKind.u64.wrap ((IntKind.u64.wrap (a5 + a6)) + (bitsI .xor .u64 y1 (IntKind.u64.wrap (a3 + a4))))) 32) fun y6 =>
      some (.inl (((), a1, (IntKind.i64.wrap (a2 + 1))), ((IntKind.u64.wrap (y2 + (bitsI .xor .u64 y3 (IntKind.u64.wrap (a5 + a6))))), (bitsI .xor .u64 y5 (IntKind.u64.wrap ((IntKind.u64.wrap (a5 + a6)) + (bitsI .xor .u64 y1 (IntKind.u64.wrap (a3 + a4)))))), y6, (bitsI .xor .u64 y4 (IntKind.u64.wrap (y2 + (bitsI .xor .u64 y3 (IntKind.u64.wrap (a5 + a6)))))))))) (
      some (.inr ((), (a3, a4, a5, a6))))
noncomputable def f51 (a1 : Int) (a2 : Int) (a3 : Int) (a4 : Int) (a5 : Int) : Option (Unit × (Int × Int × Int × Int)) :=
  Option.bind (loopFix f51l1 (((), a1, 0), (a2, a3, a4, a5))) fun y1 =>
  some ((), (y1.2.1, y1.2.2.1, y1.2.2.2.1, y1.2.2.2.2))
noncomputable def f51C : Cal := tbl [(65, (ent (.cons (.int .u64) (.int .i64)) [] (.int .u64) [] f65W))]
theorem f51C_ok : CalOK Try.prog f51C ∧ CalNt f51C := tbl_ok (by
  intro p hp
  simp only [List.mem_cons, List.not_mem_nil, or_false] at hp
  rcases hp with rfl
  exact f65_ok)
noncomputable def f51F : FH := { loops := [(1, { keep := [0, 4, 5] }, { keep := [] })] }
theorem f51l1_s (a1 : Int) (a2 : Int) (a3 : Int) (a4 : Int) (a5 : Int) (a6 : Int) : stepC Try.prog f51C f51F [] [] 1 ((loopsAt 1 (codeOf Try.f51)).headD .skip) f51l1p f51l1x { keep := [0, 4, 5] } { keep := [] } (((), a1, a2), (a3, a4, a5, a6)) _ some = f51l1 (((), a1, a2), (a3, a4, a5, a6)) := by kernel_rfl
theorem f51l1_t : ToldC Try.prog 1 (codeOf Try.f51) ((1, toldL f51l1p f51l1x f51l1) :: []) [] :=
  ToldC.loop f51F 1 (ToldC.nil 1) f51C_ok 1 ((loopsAt 1 (codeOf Try.f51)).headD .skip) (by kernel_rfl) (p := f51l1p) (px := f51l1x) (g := f51l1) (hi := { keep := [0, 4, 5] }) (ho := { keep := [] }) (by kernel_rfl) fun (x : ((Unit × Int × Int) × (Int × Int × Int × Int))) => f51l1_s x.1.2.1 x.1.2.2 x.2.1 x.2.2.1 x.2.2.2.1 x.2.2.2.2
theorem f51_b (a1 : Int) (a2 : Int) (a3 : Int) (a4 : Int) (a5 : Int) : bodyC Try.prog f51C f51F ((1, toldL f51l1p f51l1x f51l1) :: []) [] { keep := [] } 51 (.cons (.ptr 0 0) (.int .i64)) [(.cells (.cons (.int .u64) (.cons (.int .u64) (.cons (.int .u64) (.int .u64)))))] (.tup .nil) [(.cells (.cons (.int .u64) (.cons (.int .u64) (.cons (.int .u64) (.int .u64)))))] (((), a1), (a2, a3, a4, a5)) _ some = f51 a1 a2 a3 a4 a5 := by kernel_rfl
noncomputable def f51W (x : TyA (.cons (.ptr 0 0) (.int .i64)) [(.cells (.cons (.int .u64) (.cons (.int .u64) (.cons (.int .u64) (.int .u64)))))]) : Option (TyR (.tup .nil) [(.cells (.cons (.int .u64) (.cons (.int .u64) (.cons (.int .u64) (.int .u64)))))]) := f51 x.1.2 x.2.1 x.2.2.1 x.2.2.2.1 x.2.2.2.2
theorem f51_ok : EntOK Try.prog 51 (ent (.cons (.ptr 0 0) (.int .i64)) [(.cells (.cons (.int .u64) (.cons (.int .u64) (.cons (.int .u64) (.int .u64)))))] (.tup .nil) [(.cells (.cons (.int .u64) (.cons (.int .u64) (.cons (.int .u64) (.int .u64)))))] f51W) :=
  ent_ok f51F f51C_ok (hp := [(.cells (.cons (.int .u64) (.cons (.int .u64) (.cons (.int .u64) (.int .u64)))))]) (fn := Try.f51) (by kernel_rfl) f51l1_t fun (x : ((Unit × Int) × (Int × Int × Int × Int))) => f51_b x.1.2 x.2.1 x.2.2.1 x.2.2.2.1 x.2.2.2.2

/-! f49: (*passkey/digest.state).word -/
noncomputable def f49 (a1 : Int) (a2 : Int) (a3 : Int) (a4 : Int) (a5 : Int) : Option (Unit × (Int × Int × Int × Int)) :=
  Option.bind (f51 2 a2 a3 a4 (bitsI .xor .u64 a5 a1)) fun y1 =>
  some ((), ((bitsI .xor .u64 y1.2.1 a1), y1.2.2.1, y1.2.2.2.1, y1.2.2.2.2))
noncomputable def f49C : Cal := tbl [(51, (ent (.cons (.ptr 0 0) (.int .i64)) [(.cells (.cons (.int .u64) (.cons (.int .u64) (.cons (.int .u64) (.int .u64)))))] (.tup .nil) [(.cells (.cons (.int .u64) (.cons (.int .u64) (.cons (.int .u64) (.int .u64)))))] f51W))]
theorem f49C_ok : CalOK Try.prog f49C ∧ CalNt f49C := tbl_ok (by
  intro p hp
  simp only [List.mem_cons, List.not_mem_nil, or_false] at hp
  rcases hp with rfl
  exact f51_ok)
noncomputable def f49F : FH := {}
theorem f49_b (a1 : Int) (a2 : Int) (a3 : Int) (a4 : Int) (a5 : Int) : bodyC Try.prog f49C f49F [] [] { keep := [] } 49 (.cons (.ptr 0 0) (.int .u64)) [(.cells (.cons (.int .u64) (.cons (.int .u64) (.cons (.int .u64) (.int .u64)))))] (.tup .nil) [(.cells (.cons (.int .u64) (.cons (.int .u64) (.cons (.int .u64) (.int .u64)))))] (((), a1), (a2, a3, a4, a5)) _ some = f49 a1 a2 a3 a4 a5 := by kernel_rfl
noncomputable def f49W (x : TyA (.cons (.ptr 0 0) (.int .u64)) [(.cells (.cons (.int .u64) (.cons (.int .u64) (.cons (.int .u64) (.int .u64)))))]) : Option (TyR (.tup .nil) [(.cells (.cons (.int .u64) (.cons (.int .u64) (.cons (.int .u64) (.int .u64)))))]) := f49 x.1.2 x.2.1 x.2.2.1 x.2.2.2.1 x.2.2.2.2
theorem f49_ok : EntOK Try.prog 49 (ent (.cons (.ptr 0 0) (.int .u64)) [(.cells (.cons (.int .u64) (.cons (.int .u64) (.cons (.int .u64) (.int .u64)))))] (.tup .nil) [(.cells (.cons (.int .u64) (.cons (.int .u64) (.cons (.int .u64) (.int .u64)))))] f49W) :=
  ent_ok f49F f49C_ok (hp := [(.cells (.cons (.int .u64) (.cons (.int .u64) (.cons (.int .u64) (.int .u64)))))]) (fn := Try.f49) (by kernel_rfl) (ToldC.nil 1) fun (x : ((Unit × Int) × (Int × Int × Int × Int))) => f49_b x.1.2 x.2.1 x.2.2.1 x.2.2.2.1 x.2.2.2.2

/-! f41: passkey/digest.Sum -/
noncomputable def f41l3p : SP := { n := 67, ix := [2, 7, 8], p := (.cons (.nums .u8) (.cons (.ptr 0 0) (.int .u64))), hp := [(.cells (.cons (.int .u64) (.cons (.int .u64) (.cons (.int .u64) (.int .u64)))))] }
noncomputable def f41l3x : List (Ex × SP) := [((.exit 0), { n := 67, ix := [2, 7, 8], p := (.cons (.nums .u8) (.cons (.ptr 0 0) (.int .u64))), hp := [(.cells (.cons (.int .u64) (.cons (.int .u64) (.cons (.int .u64) (.int .u64)))))] })]
noncomputable def f41l3 : ((List Int × Unit × Int) × (Int × Int × Int × Int)) → Option (((List Int × Unit × Int) × (Int × Int × Int × Int)) ⊕ ((List Int × Unit × Int) × (Int × Int × Int × Int))) := fun s => match s with
  | ((a1, (), a2), (a3, a4, a5, a6)) =>
    cond (decide ((((a1.length) : Nat) : Int) ≥ 8)) (
      cond ((okBounds 0 8 (a1.length)) && ((decide (8 ≤ (((a1.length) : Nat) : Int))) && (decide ((((a1.length) : Nat) : Int) ≤ (((a1.length) : Nat) : Int))))) (
        Option.bind (f50 (cut a1 0 8)) fun y1 =>
        Option.bind (f49 y1 a3 a4 a5 a6) fun y2 =>
        cond ((okBounds 8 (((a1.length) : Nat) : Int) (a1.length)) && ((decide ((((a1.length) : Nat) : Int) ≤ (((a1.length) : Nat) : Int))) && (decide ((((a1.length) : Nat) : Int) ≤ (((a1.length) : Nat) : Int))))) (
          some (.inl (((cut a1 8 (((a1.length) : Nat) : Int)), (), a2), (y2.2.1, y2.2.2.1, y2.2.2.2.1, y2.2.2.2.2)))) none) none) (
      some (.inr ((a1, (), a2), (a3, a4, a5, a6))))
noncomputable def f41 (a1 : Int) (a2 : Int) (a3 : List Int) : Option Int :=
  Option.bind (loopFix f41l3 ((a3, (), (shlI .u64 (IntKind.u64.wrap (((a3.length) : Nat) : Int)) 56)), ((bitsI .xor .u64 a1 8317987319222330741), (bitsI .xor .u64 a2 7237128888997146477), (bitsI .xor .u64 a1 7816392313619706465), (bitsI .xor .u64 a2 8387220255154660723)))) fun y1 =>
  Option.bind (f50 y1.1.1) fun y2 =>
  Option.bind (f49 (bitsI .or .u64 y1.1.2.2 y2) y1.2.1 y1.2.2.1 y1.2.2.2.1 y1.2.2.2.2) fun y3 =>
  Option.bind (f51 4 y3.2.1 y3.2.2.1 (bitsI .xor .u64 y3.2.2.2.1 255) y3.2.2.2.2) fun y4 =>
  some (bitsI .xor .u64 (bitsI .xor .u64 (bitsI .xor .u64 y4.2.1 y4.2.2.1) y4.2.2.2.1) y4.2.2.2.2)
noncomputable def f41C : Cal := tbl [(50, (ent (.nums .u8) [] (.int .u64) [] f50W)), (49, (ent (.cons (.ptr 0 0) (.int .u64)) [(.cells (.cons (.int .u64) (.cons (.int .u64) (.cons (.int .u64) (.int .u64)))))] (.tup .nil) [(.cells (.cons (.int .u64) (.cons (.int .u64) (.cons (.int .u64) (.int .u64)))))] f49W)), (51, (ent (.cons (.ptr 0 0) (.int .i64)) [(.cells (.cons (.int .u64) (.cons (.int .u64) (.cons (.int .u64) (.int .u64)))))] (.tup .nil) [(.cells (.cons (.int .u64) (.cons (.int .u64) (.cons (.int .u64) (.int .u64)))))] f51W))]
theorem f41C_ok : CalOK Try.prog f41C ∧ CalNt f41C := tbl_ok (by
  intro p hp
  simp only [List.mem_cons, List.not_mem_nil, or_false] at hp
  rcases hp with rfl | rfl | rfl
  · exact f50_ok
  · exact f49_ok
  · exact f51_ok)
noncomputable def f41F : FH := { loops := [(3, { keep := [2, 7, 8] }, { keep := [2, 6, 7, 8] })] }
theorem f41l3_s (a1 : List Int) (a2 : Int) (a3 : Int) (a4 : Int) (a5 : Int) (a6 : Int) : stepC Try.prog f41C f41F [] [] 0 ((loopsAt 3 (codeOf Try.f41)).headD .skip) f41l3p f41l3x { keep := [2, 7, 8] } { keep := [2, 6, 7, 8] } ((a1, (), a2), (a3, a4, a5, a6)) _ some = f41l3 ((a1, (), a2), (a3, a4, a5, a6)) := by kernel_rfl
theorem f41l3_t : ToldC Try.prog 0 (codeOf Try.f41) ((3, toldL f41l3p f41l3x f41l3) :: []) [] :=
  ToldC.loop f41F 0 (ToldC.nil 0) f41C_ok 3 ((loopsAt 3 (codeOf Try.f41)).headD .skip) (by kernel_rfl) (p := f41l3p) (px := f41l3x) (g := f41l3) (hi := { keep := [2, 7, 8] }) (ho := { keep := [2, 6, 7, 8] }) (by kernel_rfl) fun (x : ((List Int × Unit × Int) × (Int × Int × Int × Int))) => f41l3_s x.1.1 x.1.2.2 x.2.1 x.2.2.1 x.2.2.2.1 x.2.2.2.2
theorem f41_b (a1 : Int) (a2 : Int) (a3 : List Int) : bodyC Try.prog f41C f41F ((3, toldL f41l3p f41l3x f41l3) :: []) [] { keep := [] } 41 (.cons (.int .u64) (.cons (.int .u64) (.nums .u8))) [] (.int .u64) [] (a1, a2, a3) _ some = f41 a1 a2 a3 := by kernel_rfl
noncomputable def f41W (x : TyA (.cons (.int .u64) (.cons (.int .u64) (.nums .u8))) []) : Option (TyR (.int .u64) []) := f41 x.1 x.2.1 x.2.2
theorem f41_ok : EntOK Try.prog 41 (ent (.cons (.int .u64) (.cons (.int .u64) (.nums .u8))) [] (.int .u64) [] f41W) :=
  ent_ok f41F f41C_ok (hp := []) (fn := Try.f41) (by kernel_rfl) f41l3_t fun (x : (Int × Int × List Int)) => f41_b x.1 x.2.1 x.2.2

/-! f26: passkey/digest.Mac -/
noncomputable def f26 (a1 : Int) (a2 : Int) (a3 : List Int) : Option Int :=
  Option.bind (f41 a1 (IntKind.u64.wrap (1 + (IntKind.u64.wrap a2))) a3) fun y1 =>
  some y1
noncomputable def f26C : Cal := tbl [(41, (ent (.cons (.int .u64) (.cons (.int .u64) (.nums .u8))) [] (.int .u64) [] f41W))]
theorem f26C_ok : CalOK Try.prog f26C ∧ CalNt f26C := tbl_ok (by
  intro p hp
  simp only [List.mem_cons, List.not_mem_nil, or_false] at hp
  rcases hp with rfl
  exact f41_ok)
noncomputable def f26F : FH := {}
theorem f26_b (a1 : Int) (a2 : Int) (a3 : List Int) : bodyC Try.prog f26C f26F [] [] { keep := [] } 26 (.cons (.int .u64) (.cons (.int .i64) (.nums .u8))) [] (.int .u64) [] (a1, a2, a3) _ some = f26 a1 a2 a3 := by kernel_rfl
noncomputable def f26W (x : TyA (.cons (.int .u64) (.cons (.int .i64) (.nums .u8))) []) : Option (TyR (.int .u64) []) := f26 x.1 x.2.1 x.2.2
theorem f26_ok : EntOK Try.prog 26 (ent (.cons (.int .u64) (.cons (.int .i64) (.nums .u8))) [] (.int .u64) [] f26W) :=
  ent_ok f26F f26C_ok (hp := []) (fn := Try.f26) (by kernel_rfl) (ToldC.nil 0) fun (x : (Int × Int × List Int)) => f26_b x.1 x.2.1 x.2.2

/-! f42: passkey/digest.Words -/
noncomputable def f42l6p : SP := { n := 28, ix := [3, 5, 7, 8, 9, 13], p := (.cons (.ref 0) (.cons (.int .u64) (.cons (.nums .u64) (.cons (.int .i64) (.cons (.int .i64) (.int .i64)))))), hp := [(.arrN 1 5 .u8)] }
noncomputable def f42l6x : List (Ex × SP) := [((.exit 2), { n := 28, ix := [3, 7, 8, 9], p := (.cons (.ref 0) (.cons (.nums .u64) (.cons (.int .i64) (.int .i64)))), hp := [(.arrN 1 5 .u8)] })]
noncomputable def f42l6 : ((Unit × Int × List Int × Int × Int × Int) × List Int) → Option (((Unit × Int × List Int × Int × Int × Int) × List Int) ⊕ ((Unit × List Int × Int × Int) × List Int)) := fun s => match s with
  | (((), a1, a2, a3, a4, a5), a6) =>
    cond (decide (a5 < 8)) (
      cond (decide (0 ≤ (IntKind.i64.wrap (56 - (IntKind.i64.wrap (8 * a5)))))) (
        cond (decide (((a6 ++ [(IntKind.u8.wrap (shrI .u64 a1 (IntKind.i64.wrap (56 - (IntKind.i64.wrap (8 * a5))))))]).length) * 1 ≤ 140737488355328)) (
          some (.inl (((), a1, a2, a3, a4, (IntKind.i64.wrap (a5 + 1))), (a6 ++ [(IntKind.u8.wrap (shrI .u64 a1 (IntKind.i64.wrap (56 - (IntKind.i64.wrap (8 * a5))))))])))) none) none) (
      some (.inr (((), a2, a3, a4), a6)))
noncomputable def f42l3p : SP := { n := 28, ix := [3, 7, 8, 9], p := (.cons (.ref 0) (.cons (.nums .u64) (.cons (.int .i64) (.int .i64)))), hp := [(.arrN 1 5 .u8)] }
noncomputable def f42l3x : List (Ex × SP) := [((.exit 0), { n := 28, ix := [3], p := (.ref 0), hp := [(.arrN 1 5 .u8)] })]
noncomputable def f42l3 : ((Unit × List Int × Int × Int) × List Int) → Option (((Unit × List Int × Int × Int) × List Int) ⊕ (Unit × List Int)) := fun s => match s with
  | (((), a1, a2, a3), a4) =>
    cond (decide (a3 < a2)) (
      Option.bind (getI a1 a3) fun y1 =>
      Option.bind (loopFix f42l6 (((), y1, a1, a2, a3, 0), a4)) fun y2 =>
      some (.inl (((), y2.1.2.1, y2.1.2.2.1, (IntKind.i64.wrap (y2.1.2.2.2 + 1))), y2.2))) (
      some (.inr ((), a4)))
noncomputable def f42 (a1 : List Int) : Option (Unit × List Int) :=
  Option.bind (loopFix f42l3 (((), a1, (((a1.length) : Nat) : Int), 0), [])) fun y1 =>
  some ((), y1.2)
noncomputable def f42C : Cal := tbl []
theorem f42C_ok : CalOK Try.prog f42C ∧ CalNt f42C := tbl_ok (by intro p hp; simp at hp)
noncomputable def f42F : FH := { loops := [(6, { keep := [3, 5, 7, 8, 9, 13] }, { keep := [2, 3, 7, 8, 9] }), (3, { keep := [3, 7, 8, 9], own := [(3, 5)] }, { keep := [2, 3] })] }
theorem f42l6_s (a1 : Int) (a2 : List Int) (a3 : Int) (a4 : Int) (a5 : Int) (a6 : List Int) : stepC Try.prog f42C f42F [] [] 0 ((loopsAt 6 (codeOf Try.f42)).headD .skip) f42l6p f42l6x { keep := [3, 5, 7, 8, 9, 13] } { keep := [2, 3, 7, 8, 9] } (((), a1, a2, a3, a4, a5), a6) _ some = f42l6 (((), a1, a2, a3, a4, a5), a6) := by kernel_rfl
theorem f42l6_t : ToldC Try.prog 0 (codeOf Try.f42) ((6, toldL f42l6p f42l6x f42l6) :: []) [] :=
  ToldC.loop f42F 0 (ToldC.nil 0) f42C_ok 6 ((loopsAt 6 (codeOf Try.f42)).headD .skip) (by kernel_rfl) (p := f42l6p) (px := f42l6x) (g := f42l6) (hi := { keep := [3, 5, 7, 8, 9, 13] }) (ho := { keep := [2, 3, 7, 8, 9] }) (by kernel_rfl) fun (x : ((Unit × Int × List Int × Int × Int × Int) × List Int)) => f42l6_s x.1.2.1 x.1.2.2.1 x.1.2.2.2.1 x.1.2.2.2.2.1 x.1.2.2.2.2.2 x.2
theorem f42l3_s (a1 : List Int) (a2 : Int) (a3 : Int) (a4 : List Int) : stepC Try.prog f42C f42F ((6, toldL f42l6p f42l6x f42l6) :: []) [] 0 ((loopsAt 3 (codeOf Try.f42)).headD .skip) f42l3p f42l3x { keep := [3, 7, 8, 9], own := [(3, 5)] } { keep := [2, 3] } (((), a1, a2, a3), a4) _ some = f42l3 (((), a1, a2, a3), a4) := by kernel_rfl
theorem f42l3_t : ToldC Try.prog 0 (codeOf Try.f42) ((3, toldL f42l3p f42l3x f42l3) :: ((6, toldL f42l6p f42l6x f42l6) :: [])) [] :=
  ToldC.loop f42F 0 f42l6_t f42C_ok 3 ((loopsAt 3 (codeOf Try.f42)).headD .skip) (by kernel_rfl) (p := f42l3p) (px := f42l3x) (g := f42l3) (hi := { keep := [3, 7, 8, 9], own := [(3, 5)] }) (ho := { keep := [2, 3] }) (by kernel_rfl) fun (x : ((Unit × List Int × Int × Int) × List Int)) => f42l3_s x.1.2.1 x.1.2.2.1 x.1.2.2.2 x.2
theorem f42_b (a1 : List Int) : bodyC Try.prog f42C f42F ((3, toldL f42l3p f42l3x f42l3) :: ((6, toldL f42l6p f42l6x f42l6) :: [])) [] { keep := [] } 42 (.nums .u64) [] (.ref 0) [(.arrN 1 5 .u8)] a1 _ some = f42 a1 := by kernel_rfl
noncomputable def f42W (x : TyA (.nums .u64) []) : Option (TyR (.ref 0) [(.arrN 1 5 .u8)]) := f42 x
theorem f42_ok : EntOK Try.prog 42 (ent (.nums .u64) [] (.ref 0) [(.arrN 1 5 .u8)] f42W) :=
  ent_ok f42F f42C_ok (hp := []) (fn := Try.f42) (by kernel_rfl) f42l3_t fun (x : List Int) => f42_b x

/-! f27: passkey/seal.Stream -/
noncomputable def f27l4p : SP := { n := 31, ix := [0, 1, 2, 7, 8], p := (.cons (.int .u64) (.cons (.int .u64) (.cons (.int .i64) (.cons (.ref 0) (.int .u64))))), hp := [(.arrN 1 5 .u8)] }
noncomputable def f27l4x : List (Ex × SP) := [((.exit 0), { n := 31, ix := [2, 7], p := (.cons (.int .i64) (.ref 0)), hp := [(.arrN 1 5 .u8)] })]
noncomputable def f27l4 : ((Int × Int × Int × Unit × Int) × List Int) → Option (((Int × Int × Int × Unit × Int) × List Int) ⊕ ((Int × Unit) × List Int)) := fun s => match s with
  | ((a1, a2, a3, (), a4), a5) =>
    cond (decide ((((a5.length) : Nat) : Int) < a3)) (
      Option.bind (f42 [a2, a4]) fun y1 =>
      Option.bind (f26 a1 5 y1.2) fun y2 =>
      Option.bind (f42 [y2]) fun y3 =>
      cond (decide (((a5 ++ y3.2).length) * 1 ≤ 140737488355328)) (
        some (.inl ((a1, a2, a3, (), (IntKind.u64.wrap (a4 + 1))), (a5 ++ y3.2)))) none) (
      some (.inr ((a3, ()), a5)))
noncomputable def f27 (a1 : Int) (a2 : Int) (a3 : Int) : Option (Unit × List Int) :=
  Option.bind (loopFix f27l4 ((a1, a2, (if (if 1024 < a3 then 1024 else a3) > 0 then (if 1024 < a3 then 1024 else a3) else 0), (), 0), [])) fun y1 =>
  cond (okBounds 0 y1.1.1 (y1.2.length)) (
    some ((), (cut y1.2 0 y1.1.1))) none
noncomputable def f27C : Cal := tbl [(42, (ent (.nums .u64) [] (.ref 0) [(.arrN 1 5 .u8)] f42W)), (26, (ent (.cons (.int .u64) (.cons (.int .i64) (.nums .u8))) [] (.int .u64) [] f26W))]
theorem f27C_ok : CalOK Try.prog f27C ∧ CalNt f27C := tbl_ok (by
  intro p hp
  simp only [List.mem_cons, List.not_mem_nil, or_false] at hp
  rcases hp with rfl | rfl
  · exact f42_ok
  · exact f26_ok)
noncomputable def f27F : FH := { loops := [(4, { keep := [0, 1, 2, 7, 8], own := [(7, 5)] }, { keep := [2, 6, 7] })], ops := [(6, [(5, .borrow), (6, .borrow), (8, .borrow)]), (7, [(2, .take)])] }
theorem f27l4_s (a1 : Int) (a2 : Int) (a3 : Int) (a4 : Int) (a5 : List Int) : stepC Try.prog f27C f27F [] [] 0 ((loopsAt 4 (codeOf Try.f27)).headD .skip) f27l4p f27l4x { keep := [0, 1, 2, 7, 8], own := [(7, 5)] } { keep := [2, 6, 7] } ((a1, a2, a3, (), a4), a5) _ some = f27l4 ((a1, a2, a3, (), a4), a5) := by kernel_rfl
theorem f27l4_t : ToldC Try.prog 0 (codeOf Try.f27) ((4, toldL f27l4p f27l4x f27l4) :: []) [] :=
  ToldC.loop f27F 0 (ToldC.nil 0) f27C_ok 4 ((loopsAt 4 (codeOf Try.f27)).headD .skip) (by kernel_rfl) (p := f27l4p) (px := f27l4x) (g := f27l4) (hi := { keep := [0, 1, 2, 7, 8], own := [(7, 5)] }) (ho := { keep := [2, 6, 7] }) (by kernel_rfl) fun (x : ((Int × Int × Int × Unit × Int) × List Int)) => f27l4_s x.1.1 x.1.2.1 x.1.2.2.1 x.1.2.2.2.2 x.2
theorem f27_b (a1 : Int) (a2 : Int) (a3 : Int) : bodyC Try.prog f27C f27F ((4, toldL f27l4p f27l4x f27l4) :: []) [] { keep := [] } 27 (.cons (.int .u64) (.cons (.int .u64) (.int .i64))) [] (.ref 0) [(.arrN 1 5 .u8)] (a1, a2, a3) _ some = f27 a1 a2 a3 := by kernel_rfl
noncomputable def f27W (x : TyA (.cons (.int .u64) (.cons (.int .u64) (.int .i64))) []) : Option (TyR (.ref 0) [(.arrN 1 5 .u8)]) := f27 x.1 x.2.1 x.2.2
theorem f27_ok : EntOK Try.prog 27 (ent (.cons (.int .u64) (.cons (.int .u64) (.int .i64))) [] (.ref 0) [(.arrN 1 5 .u8)] f27W) :=
  ent_ok f27F f27C_ok (hp := []) (fn := Try.f27) (by kernel_rfl) f27l4_t fun (x : (Int × Int × Int)) => f27_b x.1 x.2.1 x.2.2

/-! f61: math/bits.Len64 -/
noncomputable def f61j10p : SP := { n := 25, ix := [0, 2], p := (.cons (.int .u64) (.int .i64)) }
noncomputable def f61j10x : List (Ex × SP) := [(.ret, { n := 25, ix := [2], p := (.int .i64) })]
noncomputable def f61j10 : (Int × Int) → Option Int := fun s => match s with
  | (a1, a2) =>
    Option.bind (strI (bs [0, 1, 2, 2, 3, 3, 3, 3, 4, 4, 4, 4, 4, 4, 4, 4, 5, 5, 5, 5, 5, 5, 5, 5, 5, 5, 5, 5, 5, 5, 5, 5, 6, 6, 6, 6, 6, 6, 6, 6, 6, 6, 6, 6, 6, 6, 6, 6, 6, 6, 6, 6, 6, 6, 6, 6, 6, 6, 6, 6, 6, 6, 6, 6, 7, 7, 7, 7, 7, 7, 7, 7, 7, 7, 7, 7, 7, 7, 7, 7, 7, 7, 7, 7, 7, 7, 7, 7, 7, 7, 7, 7, 7, 7, 7, 7, 7, 7, 7, 7, 7, 7, 7, 7, 7, 7, 7, 7, 7, 7, 7, 7, 7, 7, 7, 7, 7, 7, 7, 7, 7, 7, 7, 7, 7, 7, 7, 7, 8, 8, 8, 8, 8, 8, 8, 8, 8, 8, 8, 8, 8, 8, 8, 8, 8, 8, 8, 8, 8, 8, 8, 8, 8, 8, 8, 8, 8, 8, 8, 8, 8, 8, 8, 8, 8, 8, 8, 8, 8, 8, 8, 8, 8, 8, 8, 8, 8, 8, 8, 8, 8, 8, 8, 8, 8, 8, 8, 8, 8, 8, 8, 8, 8, 8, 8, 8, 8, 8, 8, 8, 8, 8, 8, 8, 8, 8, 8, 8, 8, 8, 8, 8, 8, 8, 8, 8, 8, 8, 8, 8, 8, 8, 8, 8, 8, 8, 8, 8, 8, 8, 8, 8, 8, 8, 8, 8, 8, 8, 8, 8, 8, 8, 8, 8, 8, 8, 8, 8, 8, 8, 8, 8, 8, 8, 8, 8]) (IntKind.u8.wrap a1)) fun y1 =>
    some (IntKind.i64.wrap (a2 + (IntKind.i64.wrap y1)))
noncomputable def f61j7p : SP := { n := 25, ix := [0, 2], p := (.cons (.int .u64) (.int .i64)) }
noncomputable def f61j7x : List (Ex × SP) := [(.ret, { n := 25, ix := [2], p := (.int .i64) })]
noncomputable def f61j7 : (Int × Int) → Option Int := fun s => match s with
  | (a1, a2) =>
    cond (decide (a1 ≥ 256)) (
      Option.bind (f61j10 ((shrI .u64 a1 8), (IntKind.i64.wrap (a2 + 8)))) fun y1 =>
      some y1) (
      Option.bind (f61j10 (a1, a2)) fun y2 =>
      some y2)
noncomputable def f61j4p : SP := { n := 25, ix := [0, 2], p := (.cons (.int .u64) (.int .i64)) }
noncomputable def f61j4x : List (Ex × SP) := [(.ret, { n := 25, ix := [2], p := (.int .i64) })]
noncomputable def f61j4 : (Int × Int) → Option Int := fun s => match s with
  | (a1, a2) =>
    cond (decide (a1 ≥ 65536)) (
      Option.bind (f61j7 ((shrI .u64 a1 16), (IntKind.i64.wrap (a2 + 16)))) fun y1 =>
      some y1) (
      Option.bind (f61j7 (a1, a2)) fun y2 =>
      some y2)
noncomputable def f61 (a1 : Int) : Option Int :=
  cond (decide (a1 ≥ 4294967296)) (
    Option.bind (f61j4 ((shrI .u64 a1 32), 32)) fun y1 =>
    some y1) (
    Option.bind (f61j4 (a1, 0)) fun y2 =>
    some y2)
noncomputable def f61C : Cal := tbl []
theorem f61C_ok : CalOK Try.prog f61C ∧ CalNt f61C := tbl_ok (by intro p hp; simp at hp)
noncomputable def f61F : FH := { join := [(10, { keep := [0, 2] }), (7, { keep := [0, 2] }), (4, { keep := [0, 2] })] }
theorem f61j10_s (a1 : Int) (a2 : Int) : joinC Try.prog f61C f61F [] [] 0 ((joinsAt 10 (codeOf Try.f61)).headD .skip) f61j10p f61j10x { keep := [2] } (a1, a2) _ some = f61j10 (a1, a2) := by kernel_rfl
theorem f61j10_t : ToldC Try.prog 0 (codeOf Try.f61) [] ((10, toldJ f61j10p f61j10x f61j10) :: []) :=
  ToldC.join f61F 0 (ToldC.nil 0) f61C_ok 10 ((joinsAt 10 (codeOf Try.f61)).headD .skip) (by kernel_rfl) (p := f61j10p) (px := f61j10x) (g := f61j10) (ho := { keep := [2] }) fun (x : (Int × Int)) => f61j10_s x.1 x.2
theorem f61j7_s (a1 : Int) (a2 : Int) : joinC Try.prog f61C f61F [] ((10, toldJ f61j10p f61j10x f61j10) :: []) 0 ((joinsAt 7 (codeOf Try.f61)).headD .skip) f61j7p f61j7x { keep := [2] } (a1, a2) _ some = f61j7 (a1, a2) := by kernel_rfl
theorem f61j7_t : ToldC Try.prog 0 (codeOf Try.f61) [] ((7, toldJ f61j7p f61j7x f61j7) :: ((10, toldJ f61j10p f61j10x f61j10) :: [])) :=
  ToldC.join f61F 0 f61j10_t f61C_ok 7 ((joinsAt 7 (codeOf Try.f61)).headD .skip) (by kernel_rfl) (p := f61j7p) (px := f61j7x) (g := f61j7) (ho := { keep := [2] }) fun (x : (Int × Int)) => f61j7_s x.1 x.2
theorem f61j4_s (a1 : Int) (a2 : Int) : joinC Try.prog f61C f61F [] ((7, toldJ f61j7p f61j7x f61j7) :: ((10, toldJ f61j10p f61j10x f61j10) :: [])) 0 ((joinsAt 4 (codeOf Try.f61)).headD .skip) f61j4p f61j4x { keep := [2] } (a1, a2) _ some = f61j4 (a1, a2) := by kernel_rfl
theorem f61j4_t : ToldC Try.prog 0 (codeOf Try.f61) [] ((4, toldJ f61j4p f61j4x f61j4) :: ((7, toldJ f61j7p f61j7x f61j7) :: ((10, toldJ f61j10p f61j10x f61j10) :: []))) :=
  ToldC.join f61F 0 f61j7_t f61C_ok 4 ((joinsAt 4 (codeOf Try.f61)).headD .skip) (by kernel_rfl) (p := f61j4p) (px := f61j4x) (g := f61j4) (ho := { keep := [2] }) fun (x : (Int × Int)) => f61j4_s x.1 x.2
theorem f61_b (a1 : Int) : bodyC Try.prog f61C f61F [] ((4, toldJ f61j4p f61j4x f61j4) :: ((7, toldJ f61j7p f61j7x f61j7) :: ((10, toldJ f61j10p f61j10x f61j10) :: []))) { keep := [] } 61 (.int .u64) [] (.int .i64) [] a1 _ some = f61 a1 := by kernel_rfl
noncomputable def f61W (x : TyA (.int .u64) []) : Option (TyR (.int .i64) []) := f61 x
theorem f61_ok : EntOK Try.prog 61 (ent (.int .u64) [] (.int .i64) [] f61W) :=
  ent_ok f61F f61C_ok (hp := []) (fn := Try.f61) (by kernel_rfl) f61j4_t fun (x : Int) => f61_b x

/-! f44: math/bits.Len -/
noncomputable def f44 (a1 : Int) : Option Int :=
  Option.bind (f61 a1) fun y1 =>
  some y1
noncomputable def f44C : Cal := tbl [(61, (ent (.int .u64) [] (.int .i64) [] f61W))]
theorem f44C_ok : CalOK Try.prog f44C ∧ CalNt f44C := tbl_ok (by
  intro p hp
  simp only [List.mem_cons, List.not_mem_nil, or_false] at hp
  rcases hp with rfl
  exact f61_ok)
noncomputable def f44F : FH := {}
theorem f44_b (a1 : Int) : bodyC Try.prog f44C f44F [] [] { keep := [] } 44 (.int .u64) [] (.int .i64) [] a1 _ some = f44 a1 := by kernel_rfl
noncomputable def f44W (x : TyA (.int .u64) []) : Option (TyR (.int .i64) []) := f44 x
theorem f44_ok : EntOK Try.prog 44 (ent (.int .u64) [] (.int .i64) [] f44W) :=
  ent_ok f44F f44C_ok (hp := []) (fn := Try.f44) (by kernel_rfl) (ToldC.nil 0) fun (x : Int) => f44_b x

/-! f62: cmp.isNaN[byte] -/
noncomputable def f62 (a1 : Int) : Option Bool :=
  some (a1 != a1)
noncomputable def f62C : Cal := tbl []
theorem f62C_ok : CalOK Try.prog f62C ∧ CalNt f62C := tbl_ok (by intro p hp; simp at hp)
noncomputable def f62F : FH := {}
theorem f62_b (a1 : Int) : bodyC Try.prog f62C f62F [] [] { keep := [] } 62 (.int .u8) [] .bool [] a1 _ some = f62 a1 := by kernel_rfl
noncomputable def f62W (x : TyA (.int .u8) []) : Option (TyR .bool []) := f62 x
theorem f62_ok : EntOK Try.prog 62 (ent (.int .u8) [] .bool [] f62W) :=
  ent_ok f62F f62C_ok (hp := []) (fn := Try.f62) (by kernel_rfl) (ToldC.nil 0) fun (x : Int) => f62_b x

/-! f45: cmp.Compare[byte] -/
noncomputable def f45 (a1 : Int) (a2 : Int) : Option Int :=
  Option.bind (f62 a1) fun y1 =>
  Option.bind (f62 a2) fun y2 =>
  cond y1 (
    cond y2 (
      some 0) (
      some (-1))) (
    cond y2 (
      some 1) (
      cond (decide (a1 < a2)) (
        some (-1)) (
        cond (decide (a1 > a2)) (
          some 1) (
          some 0))))
noncomputable def f45C : Cal := tbl [(62, (ent (.int .u8) [] .bool [] f62W))]
theorem f45C_ok : CalOK Try.prog f45C ∧ CalNt f45C := tbl_ok (by
  intro p hp
  simp only [List.mem_cons, List.not_mem_nil, or_false] at hp
  rcases hp with rfl
  exact f62_ok)
noncomputable def f45F : FH := {}
theorem f45_b (a1 : Int) (a2 : Int) : bodyC Try.prog f45C f45F [] [] { keep := [] } 45 (.cons (.int .u8) (.int .u8)) [] (.int .i64) [] (a1, a2) _ some = f45 a1 a2 := by kernel_rfl
noncomputable def f45W (x : TyA (.cons (.int .u8) (.int .u8)) []) : Option (TyR (.int .i64) []) := f45 x.1 x.2
theorem f45_ok : EntOK Try.prog 45 (ent (.cons (.int .u8) (.int .u8)) [] (.int .i64) [] f45W) :=
  ent_ok f45F f45C_ok (hp := []) (fn := Try.f45) (by kernel_rfl) (ToldC.nil 0) fun (x : (Int × Int)) => f45_b x.1 x.2

/-! f29: slices.Compare[[]byte,byte] -/
noncomputable def f29l2p : SP := { n := 36, ix := [0, 1, 9, 10, 11], p := (.cons (.nums .u8) (.cons (.nums .u8) (.cons (.nums .u8) (.cons (.int .i64) (.int .i64))))) }
noncomputable def f29l2x : List (Ex × SP) := [(.ret, { n := 36, ix := [4], p := (.int .i64) }), ((.exit 0), { n := 36, ix := [0, 1], p := (.cons (.nums .u8) (.nums .u8)) })]
noncomputable def f29l2 : (List Int × List Int × List Int × Int × Int) → Option ((List Int × List Int × List Int × Int × Int) ⊕ (Int ⊕ (List Int × List Int))) := fun s => match s with
  | (a1, a2, a3, a4, a5) =>
    cond (decide (a5 < a4)) (
      Option.bind (getI a3 a5) fun y1 =>
      cond (decide (a5 ≥ (((a2.length) : Nat) : Int))) (
        some (.inr (.inl 1))) (
        Option.bind (getI a2 a5) fun y2 =>
        Option.bind (f45 y1 y2) fun y3 =>
        cond (y3 != 0) (
          some (.inr (.inl y3))) (
          some (.inl (a1, a2, a3, a4, (IntKind.i64.wrap (a5 + 1))))))) (
      some (.inr (.inr (a1, a2))))
noncomputable def f29 (a1 : List Int) (a2 : List Int) : Option Int :=
  Option.bind (loopFix f29l2 (a1, a2, a1, (((a1.length) : Nat) : Int), 0)) fun y1 =>
  match y1 with
  | (.inl y2) =>
    some y2
  | (.inr y3) =>
    cond (decide ((((y3.1.length) : Nat) : Int) < (((y3.2.length) : Nat) : Int))) (
      some (-1)) (
      some 0)
noncomputable def f29C : Cal := tbl [(45, (ent (.cons (.int .u8) (.int .u8)) [] (.int .i64) [] f45W))]
theorem f29C_ok : CalOK Try.prog f29C ∧ CalNt f29C := tbl_ok (by
  intro p hp
  simp only [List.mem_cons, List.not_mem_nil, or_false] at hp
  rcases hp with rfl
  exact f45_ok)
noncomputable def f29F : FH := { loops := [(2, { keep := [0, 1, 9, 10, 11] }, { keep := [0, 1, 4] })] }
theorem f29l2_s (a1 : List Int) (a2 : List Int) (a3 : List Int) (a4 : Int) (a5 : Int) : stepC Try.prog f29C f29F [] [] 0 ((loopsAt 2 (codeOf Try.f29)).headD .skip) f29l2p f29l2x { keep := [0, 1, 9, 10, 11] } { keep := [0, 1, 4] } (a1, a2, a3, a4, a5) _ some = f29l2 (a1, a2, a3, a4, a5) := by kernel_rfl
theorem f29l2_t : ToldC Try.prog 0 (codeOf Try.f29) ((2, toldL f29l2p f29l2x f29l2) :: []) [] :=
  ToldC.loop f29F 0 (ToldC.nil 0) f29C_ok 2 ((loopsAt 2 (codeOf Try.f29)).headD .skip) (by kernel_rfl) (p := f29l2p) (px := f29l2x) (g := f29l2) (hi := { keep := [0, 1, 9, 10, 11] }) (ho := { keep := [0, 1, 4] }) (by kernel_rfl) fun (x : (List Int × List Int × List Int × Int × Int)) => f29l2_s x.1 x.2.1 x.2.2.1 x.2.2.2.1 x.2.2.2.2
theorem f29_b (a1 : List Int) (a2 : List Int) : bodyC Try.prog f29C f29F ((2, toldL f29l2p f29l2x f29l2) :: []) [] { keep := [] } 29 (.cons (.nums .u8) (.nums .u8)) [] (.int .i64) [] (a1, a2) _ some = f29 a1 a2 := by kernel_rfl
noncomputable def f29W (x : TyA (.cons (.nums .u8) (.nums .u8)) []) : Option (TyR (.int .i64) []) := f29 x.1 x.2
theorem f29_ok : EntOK Try.prog 29 (ent (.cons (.nums .u8) (.nums .u8)) [] (.int .i64) [] f29W) :=
  ent_ok f29F f29C_ok (hp := []) (fn := Try.f29) (by kernel_rfl) f29l2_t fun (x : (List Int × List Int)) => f29_b x.1 x.2

/-! f52: slices.insertionSortCmpFunc[[]byte] -/
noncomputable def f52j6p : SP := { n := 53, ix := [0, 1, 2, 3, 8, 9], p := (.cons (.ref 0) (.cons (.int .i64) (.cons (.int .i64) (.cons (.clo 29 .nil .nil) (.cons (.int .i64) (.int .i64)))))), hp := [(.arrS 1 28 1)] }
noncomputable def f52j6x : List (Ex × SP) := [(.norm, { n := 53, ix := [0, 1, 2, 3, 8, 9], p := (.cons (.ref 0) (.cons (.int .i64) (.cons (.int .i64) (.cons (.clo 29 .nil .nil) (.cons (.int .i64) (.int .i64)))))), hp := [(.arrS 1 28 1)] })]
noncomputable def f52j6 : ((Unit × Int × Int × (Unit × Unit) × Int × Int) × List PD) → Option ((Unit × Int × Int × (Unit × Unit) × Int × Int) × List PD) := fun s => match s with
  | (((), a1, a2, ((), ()), a3, a4), a5) =>
    cond (inRange (IntKind.i64.wrap (a4 - 1)) (a5.length)) (
      Option.bind (a5[(Int.toNat (IntKind.i64.wrap (a4 - 1)))]?) fun y1 =>
      Option.bind (PD.numsAt .u8 y1 0) fun y2 =>
      cond (inRange a4 (a5.length)) (
        Option.bind (a5[(Int.toNat a4)]?) fun y3 =>
        Option.bind (PD.numsAt .u8 y3 0) fun y4 =>
        cond (inRange a4 (a5.length)) (
          cond (decide ((Int.toNat a4) < (a5.length))) (
            cond (inRange (IntKind.i64.wrap (a4 - 1)) ((a5.set (Int.toNat a4) (.nums .u8 y2)).length)) (
              cond (decide ((Int.toNat (IntKind.i64.wrap (a4 - 1))) < ((a5.set (Int.toNat a4) (.nums .u8 y2)).length))) (
                some (((), a1, a2, ((), ()), a3, (IntKind.i64.wrap (a4 - 1))), ((a5.set (Int.toNat a4) (.nums .u8 y2)).set (Int.toNat (IntKind.i64.wrap (a4 - 1))) (.nums .u8 y4)))) none) none) none) none) none) none
noncomputable def f52l4p : SP := { n := 53, ix := [0, 1, 2, 3, 8, 9], p := (.cons (.ref 0) (.cons (.int .i64) (.cons (.int .i64) (.cons (.clo 29 .nil .nil) (.cons (.int .i64) (.int .i64)))))), hp := [(.arrS 1 28 1)] }
noncomputable def f52l4x : List (Ex × SP) := [((.exit 2), { n := 53, ix := [0, 1, 2, 3, 8], p := (.cons (.ref 0) (.cons (.int .i64) (.cons (.int .i64) (.cons (.clo 29 .nil .nil) (.int .i64))))), hp := [(.arrS 1 28 1)] })]
noncomputable def f52l4 : ((Unit × Int × Int × (Unit × Unit) × Int × Int) × List PD) → Option (((Unit × Int × Int × (Unit × Unit) × Int × Int) × List PD) ⊕ ((Unit × Int × Int × (Unit × Unit) × Int) × List PD)) := fun s => match s with
  | (((), a1, a2, ((), ()), a3, a4), a5) =>
    cond (decide (a4 > a1)) (
      cond (inRange a4 (a5.length)) (
        Option.bind (a5[(Int.toNat a4)]?) fun y1 =>
        Option.bind (PD.numsAt .u8 y1 0) fun y2 =>
        cond (inRange (IntKind.i64.wrap (a4 - 1)) (a5.length)) (
          Option.bind (a5[(Int.toNat (IntKind.i64.wrap (a4 - 1)))]?) fun y3 =>
          Option.bind (PD.numsAt .u8 y3 0) fun y4 =>
          Option.bind (f29 y2 y4) fun y5 =>
          cond (decide (y5 < 0)) (
            Option.bind (f52j6 (((), a1, a2, ((), ()), a3, a4), a5)) fun y6 =>
            some (.inl (((), y6.1.2.1, y6.1.2.2.1, ((), ()), y6.1.2.2.2.2.1, y6.1.2.2.2.2.2), y6.2))) (
            some (.inr (((), a1, a2, ((), ()), a3), a5)))) none) none) (
      some (.inr (((), a1, a2, ((), ()), a3), a5)))
noncomputable def f52l1p : SP := { n := 53, ix := [0, 1, 2, 3, 8], p := (.cons (.ref 0) (.cons (.int .i64) (.cons (.int .i64) (.cons (.clo 29 .nil .nil) (.int .i64))))), hp := [(.arrS 1 28 1)] }
noncomputable def f52l1x : List (Ex × SP) := [((.exit 0), { n := 53, ix := [], p := .nil, hp := [(.arrS 1 28 1)] })]
noncomputable def f52l1 : ((Unit × Int × Int × (Unit × Unit) × Int) × List PD) → Option (((Unit × Int × Int × (Unit × Unit) × Int) × List PD) ⊕ (Unit × List PD)) := fun s => match s with
  | (((), a1, a2, ((), ()), a3), a4) =>
    cond (decide (a3 < a2)) (
      Option.bind (loopFix f52l4 (((), a1, a2, ((), ()), a3, a3), a4)) fun y1 =>
      some (.inl (((), y1.1.2.1, y1.1.2.2.1, ((), ()), (IntKind.i64.wrap (y1.1.2.2.2.2 + 1))), y1.2))) (
      some (.inr ((), a4)))
noncomputable def f52 (a1 : Int) (a2 : Int) (a3 : List PD) : Option (Unit × List PD) :=
  Option.bind (loopFix f52l1 (((), a1, a2, ((), ()), (IntKind.i64.wrap (a1 + 1))), a3)) fun y1 =>
  some ((), y1.2)
noncomputable def f52C : Cal := tbl [(29, (ent (.cons (.nums .u8) (.nums .u8)) [] (.int .i64) [] f29W))]
theorem f52C_ok : CalOK Try.prog f52C ∧ CalNt f52C := tbl_ok (by
  intro p hp
  simp only [List.mem_cons, List.not_mem_nil, or_false] at hp
  rcases hp with rfl
  exact f29_ok)
noncomputable def f52F : FH := { join := [(6, { keep := [0, 1, 2, 3, 8, 9] })], loops := [(4, { keep := [0, 1, 2, 3, 8, 9] }, { keep := [0, 1, 2, 3, 8] }), (1, { keep := [0, 1, 2, 3, 8] }, { keep := [] })] }
theorem f52j6_s (a1 : Int) (a2 : Int) (a3 : Int) (a4 : Int) (a5 : List PD) : joinC Try.prog f52C f52F [] [] 1 ((joinsAt 6 (codeOf Try.f52)).headD .skip) f52j6p f52j6x { keep := [0, 1, 2, 3, 8, 9] } (((), a1, a2, ((), ()), a3, a4), a5) _ some = f52j6 (((), a1, a2, ((), ()), a3, a4), a5) := by kernel_rfl
theorem f52j6_t : ToldC Try.prog 1 (codeOf Try.f52) [] ((6, toldJ f52j6p f52j6x f52j6) :: []) :=
  ToldC.join f52F 1 (ToldC.nil 1) f52C_ok 6 ((joinsAt 6 (codeOf Try.f52)).headD .skip) (by kernel_rfl) (p := f52j6p) (px := f52j6x) (g := f52j6) (ho := { keep := [0, 1, 2, 3, 8, 9] }) fun (x : ((Unit × Int × Int × (Unit × Unit) × Int × Int) × List PD)) => f52j6_s x.1.2.1 x.1.2.2.1 x.1.2.2.2.2.1 x.1.2.2.2.2.2 x.2
theorem f52l4_s (a1 : Int) (a2 : Int) (a3 : Int) (a4 : Int) (a5 : List PD) : stepC Try.prog f52C f52F [] ((6, toldJ f52j6p f52j6x f52j6) :: []) 1 ((loopsAt 4 (codeOf Try.f52)).headD .skip) f52l4p f52l4x { keep := [0, 1, 2, 3, 8, 9] } { keep := [0, 1, 2, 3, 8] } (((), a1, a2, ((), ()), a3, a4), a5) _ some = f52l4 (((), a1, a2, ((), ()), a3, a4), a5) := by kernel_rfl
theorem f52l4_t : ToldC Try.prog 1 (codeOf Try.f52) ((4, toldL f52l4p f52l4x f52l4) :: []) ((6, toldJ f52j6p f52j6x f52j6) :: []) :=
  ToldC.loop f52F 1 f52j6_t f52C_ok 4 ((loopsAt 4 (codeOf Try.f52)).headD .skip) (by kernel_rfl) (p := f52l4p) (px := f52l4x) (g := f52l4) (hi := { keep := [0, 1, 2, 3, 8, 9] }) (ho := { keep := [0, 1, 2, 3, 8] }) (by kernel_rfl) fun (x : ((Unit × Int × Int × (Unit × Unit) × Int × Int) × List PD)) => f52l4_s x.1.2.1 x.1.2.2.1 x.1.2.2.2.2.1 x.1.2.2.2.2.2 x.2
theorem f52l1_s (a1 : Int) (a2 : Int) (a3 : Int) (a4 : List PD) : stepC Try.prog f52C f52F ((4, toldL f52l4p f52l4x f52l4) :: []) ((6, toldJ f52j6p f52j6x f52j6) :: []) 1 ((loopsAt 1 (codeOf Try.f52)).headD .skip) f52l1p f52l1x { keep := [0, 1, 2, 3, 8] } { keep := [] } (((), a1, a2, ((), ()), a3), a4) _ some = f52l1 (((), a1, a2, ((), ()), a3), a4) := by kernel_rfl
theorem f52l1_t : ToldC Try.prog 1 (codeOf Try.f52) ((1, toldL f52l1p f52l1x f52l1) :: ((4, toldL f52l4p f52l4x f52l4) :: [])) ((6, toldJ f52j6p f52j6x f52j6) :: []) :=
  ToldC.loop f52F 1 f52l4_t f52C_ok 1 ((loopsAt 1 (codeOf Try.f52)).headD .skip) (by kernel_rfl) (p := f52l1p) (px := f52l1x) (g := f52l1) (hi := { keep := [0, 1, 2, 3, 8] }) (ho := { keep := [] }) (by kernel_rfl) fun (x : ((Unit × Int × Int × (Unit × Unit) × Int) × List PD)) => f52l1_s x.1.2.1 x.1.2.2.1 x.1.2.2.2.2 x.2
theorem f52_b (a1 : Int) (a2 : Int) (a3 : List PD) : bodyC Try.prog f52C f52F ((1, toldL f52l1p f52l1x f52l1) :: ((4, toldL f52l4p f52l4x f52l4) :: [])) ((6, toldJ f52j6p f52j6x f52j6) :: []) { keep := [] } 52 (.cons (.ref 0) (.cons (.int .i64) (.cons (.int .i64) (.clo 29 .nil .nil)))) [(.arrS 1 28 1)] (.tup .nil) [(.arrS 1 28 1)] (((), a1, a2, ((), ())), a3) _ some = f52 a1 a2 a3 := by kernel_rfl
noncomputable def f52W (x : TyA (.cons (.ref 0) (.cons (.int .i64) (.cons (.int .i64) (.clo 29 .nil .nil)))) [(.arrS 1 28 1)]) : Option (TyR (.tup .nil) [(.arrS 1 28 1)]) := f52 x.1.2.1 x.1.2.2.1 x.2
theorem f52_ok : EntOK Try.prog 52 (ent (.cons (.ref 0) (.cons (.int .i64) (.cons (.int .i64) (.clo 29 .nil .nil)))) [(.arrS 1 28 1)] (.tup .nil) [(.arrS 1 28 1)] f52W) :=
  ent_ok f52F f52C_ok (hp := [(.arrS 1 28 1)]) (fn := Try.f52) (by kernel_rfl) f52l1_t fun (x : ((Unit × Int × Int × (Unit × Unit)) × List PD)) => f52_b x.1.2.1 x.1.2.2.1 x.2

/-! f43: slices.pdqsortCmpFunc[[]byte] -/
noncomputable def f43l2p : SP := { n := 148, ix := [0, 1, 2, 3, 4, 10, 11], p := (.cons (.ref 0) (.cons (.int .i64) (.cons (.int .i64) (.cons (.int .i64) (.cons (.clo 29 .nil .nil) (.cons .bool .bool)))))), hp := [(.arrS 1 28 1)] }
noncomputable def f43l2x : List (Ex × SP) := [(.ret, { n := 148, ix := [], p := .nil, hp := [(.arrS 1 28 1)] })]
noncomputable def f43l2 : ((Unit × Int × Int × Int × (Unit × Unit) × Bool × Bool) × List PD) → Option (((Unit × Int × Int × Int × (Unit × Unit) × Bool × Bool) × List PD) ⊕ (Unit × List PD)) := fun s => match s with
  | (((), a1, a2, a3, ((), ()), a4, a5), a6) =>
    cond (decide ((IntKind.i64.wrap (a2 - a1)) ≤ 12)) (
      Option.bind (f52 a1 a2 a6) fun y1 =>
      some (.inr ((), y1.2))) (
      cond (a3 == 0) (
        none) (
        cond (!a4) (
          none) (
          none)))
noncomputable def f43 (a1 : Int) (a2 : Int) (a3 : Int) (a4 : List PD) : Option (Unit × List PD) :=
  Option.bind (loopFix f43l2 (((), a1, a2, a3, ((), ()), true, true), a4)) fun y1 =>
  some ((), y1.2)
noncomputable def f43C : Cal := tbl [(52, (ent (.cons (.ref 0) (.cons (.int .i64) (.cons (.int .i64) (.clo 29 .nil .nil)))) [(.arrS 1 28 1)] (.tup .nil) [(.arrS 1 28 1)] f52W))]
theorem f43C_ok : CalOK Try.prog f43C ∧ CalNt f43C := tbl_ok (by
  intro p hp
  simp only [List.mem_cons, List.not_mem_nil, or_false] at hp
  rcases hp with rfl
  exact f52_ok)
noncomputable def f43F : FH := { loops := [(2, { keep := [0, 1, 2, 3, 4, 10, 11] }, { keep := [] })], ops := [(4, [(4, (.inout [0]))])] }
theorem f43l2_s (a1 : Int) (a2 : Int) (a3 : Int) (a4 : Bool) (a5 : Bool) (a6 : List PD) : stepC Try.prog f43C f43F [] [] 1 ((loopsAt 2 (codeOf Try.f43)).headD .skip) f43l2p f43l2x { keep := [0, 1, 2, 3, 4, 10, 11] } { keep := [] } (((), a1, a2, a3, ((), ()), a4, a5), a6) _ some = f43l2 (((), a1, a2, a3, ((), ()), a4, a5), a6) := by kernel_rfl
theorem f43l2_t : ToldC Try.prog 1 (codeOf Try.f43) ((2, toldL f43l2p f43l2x f43l2) :: []) [] :=
  ToldC.loop f43F 1 (ToldC.nil 1) f43C_ok 2 ((loopsAt 2 (codeOf Try.f43)).headD .skip) (by kernel_rfl) (p := f43l2p) (px := f43l2x) (g := f43l2) (hi := { keep := [0, 1, 2, 3, 4, 10, 11] }) (ho := { keep := [] }) (by kernel_rfl) fun (x : ((Unit × Int × Int × Int × (Unit × Unit) × Bool × Bool) × List PD)) => f43l2_s x.1.2.1 x.1.2.2.1 x.1.2.2.2.1 x.1.2.2.2.2.2.1 x.1.2.2.2.2.2.2 x.2
theorem f43_b (a1 : Int) (a2 : Int) (a3 : Int) (a4 : List PD) : bodyC Try.prog f43C f43F ((2, toldL f43l2p f43l2x f43l2) :: []) [] { keep := [] } 43 (.cons (.ref 0) (.cons (.int .i64) (.cons (.int .i64) (.cons (.int .i64) (.clo 29 .nil .nil))))) [(.arrS 1 28 1)] (.tup .nil) [(.arrS 1 28 1)] (((), a1, a2, a3, ((), ())), a4) _ some = f43 a1 a2 a3 a4 := by kernel_rfl
noncomputable def f43W (x : TyA (.cons (.ref 0) (.cons (.int .i64) (.cons (.int .i64) (.cons (.int .i64) (.clo 29 .nil .nil))))) [(.arrS 1 28 1)]) : Option (TyR (.tup .nil) [(.arrS 1 28 1)]) := f43 x.1.2.1 x.1.2.2.1 x.1.2.2.2.1 x.2
theorem f43_ok : EntOK Try.prog 43 (ent (.cons (.ref 0) (.cons (.int .i64) (.cons (.int .i64) (.cons (.int .i64) (.clo 29 .nil .nil))))) [(.arrS 1 28 1)] (.tup .nil) [(.arrS 1 28 1)] f43W) :=
  ent_ok f43F f43C_ok (hp := [(.arrS 1 28 1)]) (fn := Try.f43) (by kernel_rfl) f43l2_t fun (x : ((Unit × Int × Int × Int × (Unit × Unit)) × List PD)) => f43_b x.1.2.1 x.1.2.2.1 x.1.2.2.2.1 x.2

/-! f28: slices.SortFunc[[][]byte,[]byte] -/
noncomputable def f28 (a1 : List PD) : Option (Unit × List PD) :=
  Option.bind (f44 (IntKind.u64.wrap (((a1.length) : Nat) : Int))) fun y1 =>
  Option.bind (f43 0 (((a1.length) : Nat) : Int) y1 a1) fun y2 =>
  some ((), y2.2)
noncomputable def f28C : Cal := tbl [(44, (ent (.int .u64) [] (.int .i64) [] f44W)), (43, (ent (.cons (.ref 0) (.cons (.int .i64) (.cons (.int .i64) (.cons (.int .i64) (.clo 29 .nil .nil))))) [(.arrS 1 28 1)] (.tup .nil) [(.arrS 1 28 1)] f43W))]
theorem f28C_ok : CalOK Try.prog f28C ∧ CalNt f28C := tbl_ok (by
  intro p hp
  simp only [List.mem_cons, List.not_mem_nil, or_false] at hp
  rcases hp with rfl | rfl
  · exact f44_ok
  · exact f43_ok)
noncomputable def f28F : FH := { ops := [(1, [(6, (.inout [0]))])] }
theorem f28_b (a1 : List PD) : bodyC Try.prog f28C f28F [] [] { keep := [] } 28 (.cons (.ref 0) (.clo 29 .nil .nil)) [(.arrS 1 28 1)] (.tup .nil) [(.arrS 1 28 1)] (((), ((), ())), a1) _ some = f28 a1 := by kernel_rfl
noncomputable def f28W (x : TyA (.cons (.ref 0) (.clo 29 .nil .nil)) [(.arrS 1 28 1)]) : Option (TyR (.tup .nil) [(.arrS 1 28 1)]) := f28 x.2
theorem f28_ok : EntOK Try.prog 28 (ent (.cons (.ref 0) (.clo 29 .nil .nil)) [(.arrS 1 28 1)] (.tup .nil) [(.arrS 1 28 1)] f28W) :=
  ent_ok f28F f28C_ok (hp := [(.arrS 1 28 1)]) (fn := Try.f28) (by kernel_rfl) (ToldC.nil 1) fun (x : ((Unit × (Unit × Unit)) × List PD)) => f28_b x.2

/-! f15: passkey/account.Allowed -/
noncomputable def f15j9p : SP := { n := 64, ix := [1, 2, 7, 25, 26, 27], p := (.cons (.int .u64) (.cons .str (.cons (.ref 0) (.cons (.sl 11) (.cons (.int .i64) (.int .i64)))))), hp := [(.arrS 1 28 1)] }
noncomputable def f15j9x : List (Ex × SP) := [(.norm, { n := 64, ix := [1, 2, 7, 25, 26, 27], p := (.cons (.int .u64) (.cons .str (.cons (.ref 0) (.cons (.sl 11) (.cons (.int .i64) (.int .i64)))))), hp := [(.arrS 1 28 1)] })]
noncomputable def f15j9 : ((Int × ByteArray × Unit × List PD × Int × Int) × List PD) → Option ((Int × ByteArray × Unit × List PD × Int × Int) × List PD) := fun s => match s with
  | ((a1, a2, (), a3, a4, a5), a6) =>
    some ((a1, a2, (), a3, a4, (IntKind.i64.wrap (a5 + 1))), a6)
noncomputable def f15l5p : SP := { n := 64, ix := [1, 2, 7, 25, 26, 27], p := (.cons (.int .u64) (.cons .str (.cons (.ref 0) (.cons (.sl 11) (.cons (.int .i64) (.int .i64)))))), hp := [(.arrS 1 28 1)] }
noncomputable def f15l5x : List (Ex × SP) := [((.exit 0), { n := 64, ix := [1, 2, 7], p := (.cons (.int .u64) (.cons .str (.ref 0))), hp := [(.arrS 1 28 1)] })]
noncomputable def f15l5 : ((Int × ByteArray × Unit × List PD × Int × Int) × List PD) → Option (((Int × ByteArray × Unit × List PD × Int × Int) × List PD) ⊕ ((Int × ByteArray × Unit) × List PD)) := fun s => match s with
  | ((a1, a2, (), a3, a4, a5), a6) =>
    cond (decide (a5 < a4)) (
      Option.bind (getI a3 a5) fun y1 =>
      Option.bind (PD.numsAt .u8 y1 0) fun y2 =>
      Option.bind (PD.intAt .i64 y1 1) fun y3 =>
      Option.bind (PD.intAt .u64 y1 2) fun y4 =>
      Option.bind (PD.intAt .u64 y1 3) fun y5 =>
      Option.bind (PD.intAt .i64 y1 4) fun y6 =>
      Option.bind (PD.boolAt y1 5) fun y7 =>
      Option.bind (PD.intAt .u64 y1 6) fun y8 =>
      Option.bind (PD.slAt 2 y1 7) fun y9 =>
      Option.bind (PD.boolAt y1 8) fun y10 =>
      Option.bind (PD.intAt .i64 y1 9) fun y11 =>
      Option.bind (PD.intAt .i64 y1 10) fun y12 =>
      cond (!y10) (
        cond (decide ((((a6.length) : Nat) : Int) < 4)) (
          Option.bind (f25 y2) fun y13 =>
          cond (decide (((a6 ++ [(PD.nums .u8 y13.2)]).length) * 24 ≤ 140737488355328)) (
            Option.bind (f15j9 ((a1, a2, (), a3, a4, a5), (a6 ++ [(PD.nums .u8 y13.2)]))) fun y14 =>
            some (.inl ((y14.1.1, y14.1.2.1, (), y14.1.2.2.2.1, y14.1.2.2.2.2.1, y14.1.2.2.2.2.2), y14.2))) none) (
          Option.bind (f15j9 ((a1, a2, (), a3, a4, a5), a6)) fun y15 =>
          some (.inl ((y15.1.1, y15.1.2.1, (), y15.1.2.2.2.1, y15.1.2.2.2.2.1, y15.1.2.2.2.2.2), y15.2)))) (
        Option.bind (f15j9 ((a1, a2, (), a3, a4, a5), a6)) fun y16 =>
        some (.inl ((y16.1.1, y16.1.2.1, (), y16.1.2.2.2.1, y16.1.2.2.2.2.1, y16.1.2.2.2.2.2), y16.2)))) (
      some (.inr ((a1, a2, ()), a6)))
noncomputable def f15l12p : SP := { n := 64, ix := [7, 12, 13], p := (.cons (.ref 0) (.cons (.int .u64) (.int .u64))), hp := [(.arrS 1 28 1)] }
noncomputable def f15l12x : List (Ex × SP) := [((.exit 2), { n := 64, ix := [7], p := (.ref 0), hp := [(.arrS 1 28 1)] })]
noncomputable def f15l12 : ((Unit × Int × Int) × List PD) → Option (((Unit × Int × Int) × List PD) ⊕ (Unit × List PD)) := fun s => match s with
  | (((), a1, a2), a3) =>
    cond (decide ((((a3.length) : Nat) : Int) < 4)) (
      Option.bind (f27 a1 a2 176) fun y1 =>
      cond (decide (((a3 ++ [(PD.nums .u8 y1.2)]).length) * 24 ≤ 140737488355328)) (
        some (.inl (((), a1, (IntKind.u64.wrap (a2 + 1))), (a3 ++ [(PD.nums .u8 y1.2)])))) none) (
      some (.inr ((), a3)))
noncomputable def f15j10p : SP := { n := 64, ix := [1, 2, 7], p := (.cons (.int .u64) (.cons .str (.ref 0))), hp := [(.arrS 1 28 1)] }
noncomputable def f15j10x : List (Ex × SP) := [(.ret, { n := 64, ix := [6], p := (.ref 0), hp := [(.arrS 1 28 1)] })]
noncomputable def f15j10 : ((Int × ByteArray × Unit) × List PD) → Option (Unit × List PD) := fun s => match s with
  | ((a1, a2, ()), a3) =>
    cond (decide ((a2.size) ≤ 140737488355328)) (
      Option.bind (f26 a1 20 (bytesOf a2)) fun y1 =>
      Option.bind (loopFix f15l12 (((), y1, 0), a3)) fun y2 =>
      Option.bind (f28 y2.2) fun y3 =>
      some ((), y3.2)) none
noncomputable def f15 (a1 : List PD) (a2 : Int) (a3 : ByteArray) : Option (Unit × List PD) :=
  Option.bind (f16 a1 a3) fun y1 =>
  cond y1.2 (
    Option.bind (getI a1 y1.1) fun y2 =>
    Option.bind (PD.slAt 11 y2 2) fun y3 =>
    Option.bind (loopFix f15l5 ((a2, a3, (), y3, (((y3.length) : Nat) : Int), 0), [])) fun y4 =>
    Option.bind (f15j10 ((y4.1.1, y4.1.2.1, ()), y4.2)) fun y5 =>
    some ((), y5.2)) (
    Option.bind (f15j10 ((a2, a3, ()), [])) fun y6 =>
    some ((), y6.2))
noncomputable def f15C : Cal := tbl [(16, (ent (.cons (.sl 3) .str) [] (.tup (.cons (.int .i64) .bool)) [] f16W)), (25, (ent (.nums .u8) [] (.ref 0) [(.arrN 1 5 .u8)] f25W)), (26, (ent (.cons (.int .u64) (.cons (.int .i64) (.nums .u8))) [] (.int .u64) [] f26W)), (27, (ent (.cons (.int .u64) (.cons (.int .u64) (.int .i64))) [] (.ref 0) [(.arrN 1 5 .u8)] f27W)), (28, (ent (.cons (.ref 0) (.clo 29 .nil .nil)) [(.arrS 1 28 1)] (.tup .nil) [(.arrS 1 28 1)] f28W))]
theorem f15C_ok : CalOK Try.prog f15C ∧ CalNt f15C := tbl_ok (by
  intro p hp
  simp only [List.mem_cons, List.not_mem_nil, or_false] at hp
  rcases hp with rfl | rfl | rfl | rfl | rfl
  · exact f16_ok
  · exact f25_ok
  · exact f26_ok
  · exact f27_ok
  · exact f28_ok)
noncomputable def f15F : FH := { join := [(9, { keep := [1, 2, 7, 25, 26, 27] }), (10, { keep := [1, 2, 7], own := [(7, 28)] })], loops := [(5, { keep := [1, 2, 7, 25, 26, 27], own := [(7, 28)] }, { keep := [1, 2, 6, 7] }), (12, { keep := [7, 12, 13] }, { keep := [6, 7] })], ops := [(10, [(3, .borrow)]), (15, [(1, (.inout [0]))])] }
theorem f15j9_s (a1 : Int) (a2 : ByteArray) (a3 : List PD) (a4 : Int) (a5 : Int) (a6 : List PD) : joinC Try.prog f15C f15F [] [] 0 ((joinsAt 9 (codeOf Try.f15)).headD .skip) f15j9p f15j9x { keep := [1, 2, 6, 7, 25, 26, 27] } ((a1, a2, (), a3, a4, a5), a6) _ some = f15j9 ((a1, a2, (), a3, a4, a5), a6) := by kernel_rfl
theorem f15j9_t : ToldC Try.prog 0 (codeOf Try.f15) [] ((9, toldJ f15j9p f15j9x f15j9) :: []) :=
  ToldC.join f15F 0 (ToldC.nil 0) f15C_ok 9 ((joinsAt 9 (codeOf Try.f15)).headD .skip) (by kernel_rfl) (p := f15j9p) (px := f15j9x) (g := f15j9) (ho := { keep := [1, 2, 6, 7, 25, 26, 27] }) fun (x : ((Int × ByteArray × Unit × List PD × Int × Int) × List PD)) => f15j9_s x.1.1 x.1.2.1 x.1.2.2.2.1 x.1.2.2.2.2.1 x.1.2.2.2.2.2 x.2
theorem f15l5_s (a1 : Int) (a2 : ByteArray) (a3 : List PD) (a4 : Int) (a5 : Int) (a6 : List PD) : stepC Try.prog f15C f15F [] ((9, toldJ f15j9p f15j9x f15j9) :: []) 0 ((loopsAt 5 (codeOf Try.f15)).headD .skip) f15l5p f15l5x { keep := [1, 2, 7, 25, 26, 27], own := [(7, 28)] } { keep := [1, 2, 6, 7] } ((a1, a2, (), a3, a4, a5), a6) _ some = f15l5 ((a1, a2, (), a3, a4, a5), a6) := by kernel_rfl
theorem f15l5_t : ToldC Try.prog 0 (codeOf Try.f15) ((5, toldL f15l5p f15l5x f15l5) :: []) ((9, toldJ f15j9p f15j9x f15j9) :: []) :=
  ToldC.loop f15F 0 f15j9_t f15C_ok 5 ((loopsAt 5 (codeOf Try.f15)).headD .skip) (by kernel_rfl) (p := f15l5p) (px := f15l5x) (g := f15l5) (hi := { keep := [1, 2, 7, 25, 26, 27], own := [(7, 28)] }) (ho := { keep := [1, 2, 6, 7] }) (by kernel_rfl) fun (x : ((Int × ByteArray × Unit × List PD × Int × Int) × List PD)) => f15l5_s x.1.1 x.1.2.1 x.1.2.2.2.1 x.1.2.2.2.2.1 x.1.2.2.2.2.2 x.2
theorem f15l12_s (a1 : Int) (a2 : Int) (a3 : List PD) : stepC Try.prog f15C f15F ((5, toldL f15l5p f15l5x f15l5) :: []) ((9, toldJ f15j9p f15j9x f15j9) :: []) 0 ((loopsAt 12 (codeOf Try.f15)).headD .skip) f15l12p f15l12x { keep := [7, 12, 13] } { keep := [6, 7] } (((), a1, a2), a3) _ some = f15l12 (((), a1, a2), a3) := by kernel_rfl
theorem f15l12_t : ToldC Try.prog 0 (codeOf Try.f15) ((12, toldL f15l12p f15l12x f15l12) :: ((5, toldL f15l5p f15l5x f15l5) :: [])) ((9, toldJ f15j9p f15j9x f15j9) :: []) :=
  ToldC.loop f15F 0 f15l5_t f15C_ok 12 ((loopsAt 12 (codeOf Try.f15)).headD .skip) (by kernel_rfl) (p := f15l12p) (px := f15l12x) (g := f15l12) (hi := { keep := [7, 12, 13] }) (ho := { keep := [6, 7] }) (by kernel_rfl) fun (x : ((Unit × Int × Int) × List PD)) => f15l12_s x.1.2.1 x.1.2.2 x.2
theorem f15j10_s (a1 : Int) (a2 : ByteArray) (a3 : List PD) : joinC Try.prog f15C f15F ((12, toldL f15l12p f15l12x f15l12) :: ((5, toldL f15l5p f15l5x f15l5) :: [])) ((9, toldJ f15j9p f15j9x f15j9) :: []) 0 ((joinsAt 10 (codeOf Try.f15)).headD .skip) f15j10p f15j10x { keep := [6] } ((a1, a2, ()), a3) _ some = f15j10 ((a1, a2, ()), a3) := by kernel_rfl
theorem f15j10_t : ToldC Try.prog 0 (codeOf Try.f15) ((12, toldL f15l12p f15l12x f15l12) :: ((5, toldL f15l5p f15l5x f15l5) :: [])) ((10, toldJ f15j10p f15j10x f15j10) :: ((9, toldJ f15j9p f15j9x f15j9) :: [])) :=
  ToldC.join f15F 0 f15l12_t f15C_ok 10 ((joinsAt 10 (codeOf Try.f15)).headD .skip) (by kernel_rfl) (p := f15j10p) (px := f15j10x) (g := f15j10) (ho := { keep := [6] }) fun (x : ((Int × ByteArray × Unit) × List PD)) => f15j10_s x.1.1 x.1.2.1 x.2
theorem f15_b (a1 : List PD) (a2 : Int) (a3 : ByteArray) : bodyC Try.prog f15C f15F ((12, toldL f15l12p f15l12x f15l12) :: ((5, toldL f15l5p f15l5x f15l5) :: [])) ((10, toldJ f15j10p f15j10x f15j10) :: ((9, toldJ f15j9p f15j9x f15j9) :: [])) { keep := [] } 15 (.cons (.sl 3) (.cons (.int .u64) .str)) [] (.ref 0) [(.arrS 1 28 1)] (a1, a2, a3) _ some = f15 a1 a2 a3 := by kernel_rfl
noncomputable def f15W (x : TyA (.cons (.sl 3) (.cons (.int .u64) .str)) []) : Option (TyR (.ref 0) [(.arrS 1 28 1)]) := f15 x.1 x.2.1 x.2.2
theorem f15_ok : EntOK Try.prog 15 (ent (.cons (.sl 3) (.cons (.int .u64) .str)) [] (.ref 0) [(.arrS 1 28 1)] f15W) :=
  ent_ok f15F f15C_ok (hp := []) (fn := Try.f15) (by kernel_rfl) f15j10_t fun (x : (List PD × Int × ByteArray)) => f15_b x.1 x.2.1 x.2.2

/-! f7: passkey/passkeylaw30.awake -/
noncomputable def f7 : Option Bool :=
  Option.bind (f10 1 2) fun y1 =>
  Option.bind (f19 y1.1 y1.2.1 y1.2.2.1 y1.2.2.2.1 y1.2.2.2.2.1 y1.2.2.2.2.2.1 y1.2.2.2.2.2.2.1 y1.2.2.2.2.2.2.2.1 y1.2.2.2.2.2.2.2.2.1 y1.2.2.2.2.2.2.2.2.2.1 y1.2.2.2.2.2.2.2.2.2.2 1 0 7) fun y2 =>
  Option.bind (f19 y2.1.1 y2.1.2.1 y2.1.2.2.1 y2.1.2.2.2.1 y2.1.2.2.2.2.1 y2.1.2.2.2.2.2.1 y2.1.2.2.2.2.2.2.1 y2.1.2.2.2.2.2.2.2.1 y2.1.2.2.2.2.2.2.2.2.1 y2.1.2.2.2.2.2.2.2.2.2.1 y2.1.2.2.2.2.2.2.2.2.2.2 3 2 8) fun y3 =>
  Option.bind (f19 y3.1.1 y3.1.2.1 y3.1.2.2.1 y3.1.2.2.2.1 y3.1.2.2.2.2.1 y3.1.2.2.2.2.2.1 y3.1.2.2.2.2.2.2.1 y3.1.2.2.2.2.2.2.2.1 y3.1.2.2.2.2.2.2.2.2.1 y3.1.2.2.2.2.2.2.2.2.2.1 y3.1.2.2.2.2.2.2.2.2.2.2 0 0 9) fun y4 =>
  Option.bind (f19 y3.1.1 y3.1.2.1 y3.1.2.2.1 y3.1.2.2.2.1 y3.1.2.2.2.2.1 y3.1.2.2.2.2.2.1 y3.1.2.2.2.2.2.2.1 y3.1.2.2.2.2.2.2.2.1 y3.1.2.2.2.2.2.2.2.2.1 y3.1.2.2.2.2.2.2.2.2.2.1 y3.1.2.2.2.2.2.2.2.2.2.2 3 2 9) fun y5 =>
  Option.bind (f13 [] (bs [97, 108, 105, 99, 101]) (bs [117]) y3.1.1 y3.1.2.1 y3.1.2.2.1 y3.1.2.2.2.1 y3.1.2.2.2.2.1 y3.1.2.2.2.2.2.1 y3.1.2.2.2.2.2.2.1 y3.1.2.2.2.2.2.2.2.1 y3.1.2.2.2.2.2.2.2.2.1 y3.1.2.2.2.2.2.2.2.2.2.1 y3.1.2.2.2.2.2.2.2.2.2.2) fun y6 =>
  Option.bind (f16 y6.2 (bs [97, 108, 105, 99, 101])) fun y7 =>
  cond (y2.2 == 0) (
    cond (y3.2 == 0) (
      cond (y4.2 == 37) (
        cond (y5.2 == 37) (
          cond (y6.1.2 == 0) (
            cond (!y4.1.2.2.2.2.2.2.2.2.1) (
              cond y5.1.2.2.2.2.2.2.2.2.1 (
                cond (y3.1.2.2.2.2.2.2.1 == 10) (
                  cond ((((y3.1.2.2.2.2.2.2.2.1.length) : Nat) : Int) == 2) (
                    cond y7.2 (
                      cond (y7.1 == 0) (
                        Option.bind (f15 y6.2 1 (bs [98, 111, 98])) fun y8 =>
                        some ((((y8.2.length) : Nat) : Int) == 4)) (
                        some false)) (
                      some false)) (
                    some false)) (
                  some false)) (
                some false)) (
              some false)) (
            some false)) (
          some false)) (
        some false)) (
      some false)) (
    some false)
noncomputable def f7C : Cal := tbl [(10, (ent (.cons (.int .i64) (.int .i64)) [] (.agg (.cons (.nums .u8) (.cons (.int .i64) (.cons (.int .u64) (.cons (.int .u64) (.cons (.int .i64) (.cons .bool (.cons (.int .u64) (.cons (.sl 2) (.cons .bool (.cons (.int .i64) (.int .i64)))))))))))) [] f10W)), (19, (ent (.cons (.agg (.cons (.nums .u8) (.cons (.int .i64) (.cons (.int .u64) (.cons (.int .u64) (.cons (.int .i64) (.cons .bool (.cons (.int .u64) (.cons (.sl 2) (.cons .bool (.cons (.int .i64) (.int .i64)))))))))))) (.cons (.int .i64) (.cons (.int .i64) (.int .i64)))) [] (.tup (.cons (.agg (.cons (.nums .u8) (.cons (.int .i64) (.cons (.int .u64) (.cons (.int .u64) (.cons (.int .i64) (.cons .bool (.cons (.int .u64) (.cons (.sl 2) (.cons .bool (.cons (.int .i64) (.int .i64)))))))))))) (.int .i64))) [] f19W)), (13, (ent (.cons (.sl 3) (.cons .str (.cons .str (.agg (.cons (.nums .u8) (.cons (.int .i64) (.cons (.int .u64) (.cons (.int .u64) (.cons (.int .i64) (.cons .bool (.cons (.int .u64) (.cons (.sl 2) (.cons .bool (.cons (.int .i64) (.int .i64))))))))))))))) [] (.tup (.cons (.ref 0) (.int .i64))) [(.arrS 3 48 3)] f13W)), (16, (ent (.cons (.sl 3) .str) [] (.tup (.cons (.int .i64) .bool)) [] f16W)), (15, (ent (.cons (.sl 3) (.cons (.int .u64) .str)) [] (.ref 0) [(.arrS 1 28 1)] f15W))]
theorem f7C_ok : CalOK Try.prog f7C ∧ CalNt f7C := tbl_ok (by
  intro p hp
  simp only [List.mem_cons, List.not_mem_nil, or_false] at hp
  rcases hp with rfl | rfl | rfl | rfl | rfl
  · exact f10_ok
  · exact f19_ok
  · exact f13_ok
  · exact f16_ok
  · exact f15_ok)
noncomputable def f7F : FH := { ops := [(6, [(1, .borrow)])] }
theorem f7_b : bodyC Try.prog f7C f7F [] [] { keep := [] } 7 .nil [] .bool [] () _ some = f7 := by kernel_rfl
noncomputable def f7W (x : TyA .nil []) : Option (TyR .bool []) := f7
theorem f7_ok : EntOK Try.prog 7 (ent .nil [] .bool [] f7W) :=
  ent_ok f7F f7C_ok (hp := []) (fn := Try.f7) (by kernel_rfl) (ToldC.nil 0) fun (x : Unit) => f7_b

/-! f4: passkey/passkeylaw30.AccountAccepts -/
noncomputable def f4j18p : SP := { n := 119, ix := [11, 13, 14, 19], p := (.cons (.ptr 0 0) (.cons (.ptr 1 0) (.cons (.ptr 2 0) (.int .i64)))), hp := [(.cells (.cons (.nums .i64) (.int .i64))), (.cells (.cons (.nums .u8) (.cons (.int .i64) (.cons (.int .u64) (.cons (.int .u64) (.cons (.int .i64) (.cons .bool (.cons (.int .u64) (.cons (.sl 2) (.cons .bool (.cons (.int .i64) (.int .i64)))))))))))), (.cells (.cons (.nums .u8) (.cons (.int .i64) (.cons (.int .u64) (.cons (.int .u64) (.cons (.int .i64) (.cons .bool (.cons (.int .u64) (.cons (.sl 2) (.cons .bool (.cons (.int .i64) (.int .i64))))))))))))] }
noncomputable def f4j18x : List (Ex × SP) := [(.norm, { n := 119, ix := [11, 13, 14, 19], p := (.cons (.ptr 0 0) (.cons (.ptr 1 0) (.cons (.ptr 2 0) (.int .i64)))), hp := [(.cells (.cons (.nums .i64) (.int .i64))), (.cells (.cons (.nums .u8) (.cons (.int .i64) (.cons (.int .u64) (.cons (.int .u64) (.cons (.int .i64) (.cons .bool (.cons (.int .u64) (.cons (.sl 2) (.cons .bool (.cons (.int .i64) (.int .i64)))))))))))), (.cells (.cons (.nums .u8) (.cons (.int .i64) (.cons (.int .u64) (.cons (.int .u64) (.cons (.int .i64) (.cons .bool (.cons (.int .u64) (.cons (.sl 2) (.cons .bool (.cons (.int .i64) (.int .i64))))))))))))] })]
noncomputable def f4j18B (a1 : Int) (a2 : List Int) (a3 : Int) (a4 : List Int) (a5 : Int) (a6 : Int) (a7 : Int) (a8 : Int) (a9 : Bool) (a10 : Int) (a11 : List PD) (a12 : Bool) (a13 : Int) (a14 : Int) (a15 : List Int) (a16 : Int) (a17 : Int) (a18 : Int) (a19 : Int) (a20 : Bool) (a21 : Int) (a22 : List PD) (a23 : Bool) (a24 : Int) (a25 : Int) : Option ((Unit × Unit × Unit × Int) × ((List Int × Int) × (List Int × Int × Int × Int × Int × Bool × Int × List PD × Bool × Int × Int) × (List Int × Int × Int × Int × Int × Bool × Int × List PD × Bool × Int × Int))) :=
  cond a23 (
    Option.bind (f12 2 a2 a3) fun y1 =>
    cond (y1.1 == 1) (
      some (((), (), (), a1), ((y1.2.1, y1.2.2), (a4, a5, a6, a7, a8, a9, a10, a11, false, a13, a14), (a15, a16, a17, a18, a19, a20, a21, a22, false, a24, a25)))) (
      some (((), (), (), a1), ((y1.2.1, y1.2.2), (a4, a5, a6, a7, a8, a9, a10, a11, a12, a13, a14), (a15, a16, a17, a18, a19, a20, a21, a22, a23, a24, a25))))) (
    some (((), (), (), a1), ((a2, a3), (a4, a5, a6, a7, a8, a9, a10, a11, a12, a13, a14), (a15, a16, a17, a18, a19, a20, a21, a22, a23, a24, a25))))
noncomputable def f4j18 : ((Unit × Unit × Unit × Int) × ((List Int × Int) × (List Int × Int × Int × Int × Int × Bool × Int × List PD × Bool × Int × Int) × (List Int × Int × Int × Int × Int × Bool × Int × List PD × Bool × Int × Int))) → Option ((Unit × Unit × Unit × Int) × ((List Int × Int) × (List Int × Int × Int × Int × Int × Bool × Int × List PD × Bool × Int × Int) × (List Int × Int × Int × Int × Int × Bool × Int × List PD × Bool × Int × Int))) := fun s => f4j18B s.1.2.2.2 s.2.1.1 s.2.1.2 s.2.2.1.1 s.2.2.1.2.1 s.2.2.1.2.2.1 s.2.2.1.2.2.2.1 s.2.2.1.2.2.2.2.1 s.2.2.1.2.2.2.2.2.1 s.2.2.1.2.2.2.2.2.2.1 s.2.2.1.2.2.2.2.2.2.2.1 s.2.2.1.2.2.2.2.2.2.2.2.1 s.2.2.1.2.2.2.2.2.2.2.2.2.1 s.2.2.1.2.2.2.2.2.2.2.2.2.2 s.2.2.2.1 s.2.2.2.2.1 s.2.2.2.2.2.1 s.2.2.2.2.2.2.1 s.2.2.2.2.2.2.2.1 s.2.2.2.2.2.2.2.2.1 s.2.2.2.2.2.2.2.2.2.1 s.2.2.2.2.2.2.2.2.2.2.1 s.2.2.2.2.2.2.2.2.2.2.2.1 s.2.2.2.2.2.2.2.2.2.2.2.2.1 s.2.2.2.2.2.2.2.2.2.2.2.2.2
noncomputable def f4j14p : SP := { n := 119, ix := [11, 13, 14, 19, 20, 21], p := (.cons (.ptr 0 0) (.cons (.ptr 1 0) (.cons (.ptr 2 0) (.cons (.int .i64) (.cons (.int .i64) (.int .i64)))))), hp := [(.cells (.cons (.nums .i64) (.int .i64))), (.cells (.cons (.nums .u8) (.cons (.int .i64) (.cons (.int .u64) (.cons (.int .u64) (.cons (.int .i64) (.cons .bool (.cons (.int .u64) (.cons (.sl 2) (.cons .bool (.cons (.int .i64) (.int .i64)))))))))))), (.cells (.cons (.nums .u8) (.cons (.int .i64) (.cons (.int .u64) (.cons (.int .u64) (.cons (.int .i64) (.cons .bool (.cons (.int .u64) (.cons (.sl 2) (.cons .bool (.cons (.int .i64) (.int .i64))))))))))))] }
noncomputable def f4j14x : List (Ex × SP) := [(.ret, { n := 119, ix := [10], p := .bool, hp := [(.cells (.cons (.nums .i64) (.int .i64))), (.cells (.cons (.nums .u8) (.cons (.int .i64) (.cons (.int .u64) (.cons (.int .u64) (.cons (.int .i64) (.cons .bool (.cons (.int .u64) (.cons (.sl 2) (.cons .bool (.cons (.int .i64) (.int .i64)))))))))))), (.cells (.cons (.nums .u8) (.cons (.int .i64) (.cons (.int .u64) (.cons (.int .u64) (.cons (.int .i64) (.cons .bool (.cons (.int .u64) (.cons (.sl 2) (.cons .bool (.cons (.int .i64) (.int .i64))))))))))))] }), (.norm, { n := 119, ix := [11, 13, 14, 19], p := (.cons (.ptr 0 0) (.cons (.ptr 1 0) (.cons (.ptr 2 0) (.int .i64)))), hp := [(.cells (.cons (.nums .i64) (.int .i64))), (.cells (.cons (.nums .u8) (.cons (.int .i64) (.cons (.int .u64) (.cons (.int .u64) (.cons (.int .i64) (.cons .bool (.cons (.int .u64) (.cons (.sl 2) (.cons .bool (.cons (.int .i64) (.int .i64)))))))))))), (.cells (.cons (.nums .u8) (.cons (.int .i64) (.cons (.int .u64) (.cons (.int .u64) (.cons (.int .i64) (.cons .bool (.cons (.int .u64) (.cons (.sl 2) (.cons .bool (.cons (.int .i64) (.int .i64))))))))))))] })]
noncomputable def f4j14B (a1 : Int) (a2 : Int) (a3 : Int) (a4 : List Int) (a5 : Int) (a6 : List Int) (a7 : Int) (a8 : Int) (a9 : Int) (a10 : Int) (a11 : Bool) (a12 : Int) (a13 : List PD) (a14 : Bool) (a15 : Int) (a16 : Int) (a17 : List Int) (a18 : Int) (a19 : Int) (a20 : Int) (a21 : Int) (a22 : Bool) (a23 : Int) (a24 : List PD) (a25 : Bool) (a26 : Int) (a27 : Int) : Option ((Bool × ((List Int × Int) × (List Int × Int × Int × Int × Int × Bool × Int × List PD × Bool × Int × Int) × (List Int × Int × Int × Int × Int × Bool × Int × List PD × Bool × Int × Int))) ⊕ ((Unit × Unit × Unit × Int) × ((List Int × Int) × (List Int × Int × Int × Int × Int × Bool × Int × List PD × Bool × Int × Int) × (List Int × Int × Int × Int × Int × Bool × Int × List PD × Bool × Int × Int)))) :=
  Option.bind (f19 a6 a7 a8 a9 a10 a11 a12 a13 a14 a15 a16 a2 a3 a1) fun y1 =>
  Option.bind (f20 a17 a18 a19 a20 a21 a22 a23 a24 a25 a26 a27 a2 a3 a1) fun y2 =>
  cond (y1.2 != y2.2) (
    some (.inl (false, ((a4, a5), (y1.1.1, y1.1.2.1, y1.1.2.2.1, y1.1.2.2.2.1, y1.1.2.2.2.2.1, y1.1.2.2.2.2.2.1, y1.1.2.2.2.2.2.2.1, y1.1.2.2.2.2.2.2.2.1, y1.1.2.2.2.2.2.2.2.2.1, y1.1.2.2.2.2.2.2.2.2.2.1, y1.1.2.2.2.2.2.2.2.2.2.2), (y2.1.1, y2.1.2.1, y2.1.2.2.1, y2.1.2.2.2.1, y2.1.2.2.2.2.1, y2.1.2.2.2.2.2.1, y2.1.2.2.2.2.2.2.1, y2.1.2.2.2.2.2.2.2.1, y2.1.2.2.2.2.2.2.2.2.1, y2.1.2.2.2.2.2.2.2.2.2.1, y2.1.2.2.2.2.2.2.2.2.2.2))))) (
    Option.bind (f21 y1.1.1 y1.1.2.1 y1.1.2.2.1 y1.1.2.2.2.1 y1.1.2.2.2.2.1 y1.1.2.2.2.2.2.1 y1.1.2.2.2.2.2.2.1 y1.1.2.2.2.2.2.2.2.1 y1.1.2.2.2.2.2.2.2.2.1 y1.1.2.2.2.2.2.2.2.2.2.1 y1.1.2.2.2.2.2.2.2.2.2.2 y2.1.1 y2.1.2.1 y2.1.2.2.1 y2.1.2.2.2.1 y2.1.2.2.2.2.1 y2.1.2.2.2.2.2.1 y2.1.2.2.2.2.2.2.1 y2.1.2.2.2.2.2.2.2.1 y2.1.2.2.2.2.2.2.2.2.1 y2.1.2.2.2.2.2.2.2.2.2.1 y2.1.2.2.2.2.2.2.2.2.2.2) fun y3 =>
    cond (!y3) (
      some (.inl (false, ((a4, a5), (y1.1.1, y1.1.2.1, y1.1.2.2.1, y1.1.2.2.2.1, y1.1.2.2.2.2.1, y1.1.2.2.2.2.2.1, y1.1.2.2.2.2.2.2.1, y1.1.2.2.2.2.2.2.2.1, y1.1.2.2.2.2.2.2.2.2.1, y1.1.2.2.2.2.2.2.2.2.2.1, y1.1.2.2.2.2.2.2.2.2.2.2), (y2.1.1, y2.1.2.1, y2.1.2.2.1, y2.1.2.2.2.1, y2.1.2.2.2.2.1, y2.1.2.2.2.2.2.1, y2.1.2.2.2.2.2.2.1, y2.1.2.2.2.2.2.2.2.1, y2.1.2.2.2.2.2.2.2.2.1, y2.1.2.2.2.2.2.2.2.2.2.1, y2.1.2.2.2.2.2.2.2.2.2.2))))) (
      Option.bind (f4j18 (((), (), (), a1), ((a4, a5), (y1.1.1, y1.1.2.1, y1.1.2.2.1, y1.1.2.2.2.1, y1.1.2.2.2.2.1, y1.1.2.2.2.2.2.1, y1.1.2.2.2.2.2.2.1, y1.1.2.2.2.2.2.2.2.1, y1.1.2.2.2.2.2.2.2.2.1, y1.1.2.2.2.2.2.2.2.2.2.1, y1.1.2.2.2.2.2.2.2.2.2.2), (y2.1.1, y2.1.2.1, y2.1.2.2.1, y2.1.2.2.2.1, y2.1.2.2.2.2.1, y2.1.2.2.2.2.2.1, y2.1.2.2.2.2.2.2.1, y2.1.2.2.2.2.2.2.2.1, y2.1.2.2.2.2.2.2.2.2.1, y2.1.2.2.2.2.2.2.2.2.2.1, y2.1.2.2.2.2.2.2.2.2.2.2)))) fun y4 =>
      some (.inr (((), (), (), y4.1.2.2.2), ((y4.2.1.1, y4.2.1.2), (y4.2.2.1.1, y4.2.2.1.2.1, y4.2.2.1.2.2.1, y4.2.2.1.2.2.2.1, y4.2.2.1.2.2.2.2.1, y4.2.2.1.2.2.2.2.2.1, y4.2.2.1.2.2.2.2.2.2.1, y4.2.2.1.2.2.2.2.2.2.2.1, y4.2.2.1.2.2.2.2.2.2.2.2.1, y4.2.2.1.2.2.2.2.2.2.2.2.2.1, y4.2.2.1.2.2.2.2.2.2.2.2.2.2), (y4.2.2.2.1, y4.2.2.2.2.1, y4.2.2.2.2.2.1, y4.2.2.2.2.2.2.1, y4.2.2.2.2.2.2.2.1, y4.2.2.2.2.2.2.2.2.1, y4.2.2.2.2.2.2.2.2.2.1, y4.2.2.2.2.2.2.2.2.2.2.1, y4.2.2.2.2.2.2.2.2.2.2.2.1, y4.2.2.2.2.2.2.2.2.2.2.2.2.1, y4.2.2.2.2.2.2.2.2.2.2.2.2.2))))))
noncomputable def f4j14 : ((Unit × Unit × Unit × Int × Int × Int) × ((List Int × Int) × (List Int × Int × Int × Int × Int × Bool × Int × List PD × Bool × Int × Int) × (List Int × Int × Int × Int × Int × Bool × Int × List PD × Bool × Int × Int))) → Option ((Bool × ((List Int × Int) × (List Int × Int × Int × Int × Int × Bool × Int × List PD × Bool × Int × Int) × (List Int × Int × Int × Int × Int × Bool × Int × List PD × Bool × Int × Int))) ⊕ ((Unit × Unit × Unit × Int) × ((List Int × Int) × (List Int × Int × Int × Int × Int × Bool × Int × List PD × Bool × Int × Int) × (List Int × Int × Int × Int × Int × Bool × Int × List PD × Bool × Int × Int)))) := fun s => f4j14B s.1.2.2.2.1 s.1.2.2.2.2.1 s.1.2.2.2.2.2 s.2.1.1 s.2.1.2 s.2.2.1.1 s.2.2.1.2.1 s.2.2.1.2.2.1 s.2.2.1.2.2.2.1 s.2.2.1.2.2.2.2.1 s.2.2.1.2.2.2.2.2.1 s.2.2.1.2.2.2.2.2.2.1 s.2.2.1.2.2.2.2.2.2.2.1 s.2.2.1.2.2.2.2.2.2.2.2.1 s.2.2.1.2.2.2.2.2.2.2.2.2.1 s.2.2.1.2.2.2.2.2.2.2.2.2.2 s.2.2.2.1 s.2.2.2.2.1 s.2.2.2.2.2.1 s.2.2.2.2.2.2.1 s.2.2.2.2.2.2.2.1 s.2.2.2.2.2.2.2.2.1 s.2.2.2.2.2.2.2.2.2.1 s.2.2.2.2.2.2.2.2.2.2.1 s.2.2.2.2.2.2.2.2.2.2.2.1 s.2.2.2.2.2.2.2.2.2.2.2.2.1 s.2.2.2.2.2.2.2.2.2.2.2.2.2
noncomputable def f4j11p : SP := { n := 119, ix := [11, 13, 14, 19], p := (.cons (.ptr 0 0) (.cons (.ptr 1 0) (.cons (.ptr 2 0) (.int .i64)))), hp := [(.cells (.cons (.nums .i64) (.int .i64))), (.cells (.cons (.nums .u8) (.cons (.int .i64) (.cons (.int .u64) (.cons (.int .u64) (.cons (.int .i64) (.cons .bool (.cons (.int .u64) (.cons (.sl 2) (.cons .bool (.cons (.int .i64) (.int .i64)))))))))))), (.cells (.cons (.nums .u8) (.cons (.int .i64) (.cons (.int .u64) (.cons (.int .u64) (.cons (.int .i64) (.cons .bool (.cons (.int .u64) (.cons (.sl 2) (.cons .bool (.cons (.int .i64) (.int .i64))))))))))))] }
noncomputable def f4j11x : List (Ex × SP) := [(.ret, { n := 119, ix := [10], p := .bool }), (.norm, { n := 119, ix := [11, 13, 14, 19], p := (.cons (.ptr 0 0) (.cons (.ptr 1 0) (.cons (.ptr 2 0) (.int .i64)))), hp := [(.cells (.cons (.nums .i64) (.int .i64))), (.cells (.cons (.nums .u8) (.cons (.int .i64) (.cons (.int .u64) (.cons (.int .u64) (.cons (.int .i64) (.cons .bool (.cons (.int .u64) (.cons (.sl 2) (.cons .bool (.cons (.int .i64) (.int .i64)))))))))))), (.cells (.cons (.nums .u8) (.cons (.int .i64) (.cons (.int .u64) (.cons (.int .u64) (.cons (.int .i64) (.cons .bool (.cons (.int .u64) (.cons (.sl 2) (.cons .bool (.cons (.int .i64) (.int .i64))))))))))))] })]
noncomputable def f4j11B (a1 : Int) (a2 : List Int) (a3 : Int) (a4 : List Int) (a5 : Int) (a6 : Int) (a7 : Int) (a8 : Int) (a9 : Bool) (a10 : Int) (a11 : List PD) (a12 : Bool) (a13 : Int) (a14 : Int) (a15 : List Int) (a16 : Int) (a17 : Int) (a18 : Int) (a19 : Int) (a20 : Bool) (a21 : Int) (a22 : List PD) (a23 : Bool) (a24 : Int) (a25 : Int) : Option (Bool ⊕ ((Unit × Unit × Unit × Int) × ((List Int × Int) × (List Int × Int × Int × Int × Int × Bool × Int × List PD × Bool × Int × Int) × (List Int × Int × Int × Int × Int × Bool × Int × List PD × Bool × Int × Int)))) :=
  Option.bind (f12 18 a2 a3) fun y1 =>
  Option.bind (f12 18 y1.2.1 y1.2.2) fun y2 =>
  Option.bind (f12 3 y2.2.1 y2.2.2) fun y3 =>
  cond (decide (y3.1 > 0)) (
    Option.bind (f12 3 y3.2.1 y3.2.2) fun y4 =>
    cond (inRange y4.1 3) (
      Option.bind ([0, 8, 4][(Int.toNat y4.1)]?) fun y5 =>
      Option.bind (f4j14 (((), (), (), a1, (IntKind.i64.wrap (y1.1 - 1)), y5), ((y4.2.1, y4.2.2), (a4, a5, a6, a7, a8, a9, a10, a11, a12, a13, a14), (a15, a16, a17, a18, a19, a20, a21, a22, a23, a24, a25)))) fun y6 =>
      match y6 with
      | (.inl y7) =>
        some (.inl y7.1)
      | (.inr y8) =>
        some (.inr (((), (), (), (IntKind.i64.wrap (y8.1.2.2.2 + 1))), ((y8.2.1.1, y8.2.1.2), (y8.2.2.1.1, y8.2.2.1.2.1, y8.2.2.1.2.2.1, y8.2.2.1.2.2.2.1, y8.2.2.1.2.2.2.2.1, y8.2.2.1.2.2.2.2.2.1, y8.2.2.1.2.2.2.2.2.2.1, y8.2.2.1.2.2.2.2.2.2.2.1, y8.2.2.1.2.2.2.2.2.2.2.2.1, y8.2.2.1.2.2.2.2.2.2.2.2.2.1, y8.2.2.1.2.2.2.2.2.2.2.2.2.2), (y8.2.2.2.1, y8.2.2.2.2.1, y8.2.2.2.2.2.1, y8.2.2.2.2.2.2.1, y8.2.2.2.2.2.2.2.1, y8.2.2.2.2.2.2.2.2.1, y8.2.2.2.2.2.2.2.2.2.1, y8.2.2.2.2.2.2.2.2.2.2.1, y8.2.2.2.2.2.2.2.2.2.2.2.1, y8.2.2.2.2.2.2.2.2.2.2.2.2.1, y8.2.2.2.2.2.2.2.2.2.2.2.2.2))))) none) (
    Option.bind (f4j14 (((), (), (), a1, (IntKind.i64.wrap (y1.1 - 1)), (IntKind.i64.wrap (y2.1 - 1))), ((y3.2.1, y3.2.2), (a4, a5, a6, a7, a8, a9, a10, a11, a12, a13, a14), (a15, a16, a17, a18, a19, a20, a21, a22, a23, a24, a25)))) fun y9 =>
    match y9 with
    | (.inl y10) =>
      some (.inl y10.1)
    | (.inr y11) =>
      some (.inr (((), (), (), (IntKind.i64.wrap (y11.1.2.2.2 + 1))), ((y11.2.1.1, y11.2.1.2), (y11.2.2.1.1, y11.2.2.1.2.1, y11.2.2.1.2.2.1, y11.2.2.1.2.2.2.1, y11.2.2.1.2.2.2.2.1, y11.2.2.1.2.2.2.2.2.1, y11.2.2.1.2.2.2.2.2.2.1, y11.2.2.1.2.2.2.2.2.2.2.1, y11.2.2.1.2.2.2.2.2.2.2.2.1, y11.2.2.1.2.2.2.2.2.2.2.2.2.1, y11.2.2.1.2.2.2.2.2.2.2.2.2.2), (y11.2.2.2.1, y11.2.2.2.2.1, y11.2.2.2.2.2.1, y11.2.2.2.2.2.2.1, y11.2.2.2.2.2.2.2.1, y11.2.2.2.2.2.2.2.2.1, y11.2.2.2.2.2.2.2.2.2.1, y11.2.2.2.2.2.2.2.2.2.2.1, y11.2.2.2.2.2.2.2.2.2.2.2.1, y11.2.2.2.2.2.2.2.2.2.2.2.2.1, y11.2.2.2.2.2.2.2.2.2.2.2.2.2)))))
noncomputable def f4j11 : ((Unit × Unit × Unit × Int) × ((List Int × Int) × (List Int × Int × Int × Int × Int × Bool × Int × List PD × Bool × Int × Int) × (List Int × Int × Int × Int × Int × Bool × Int × List PD × Bool × Int × Int))) → Option (Bool ⊕ ((Unit × Unit × Unit × Int) × ((List Int × Int) × (List Int × Int × Int × Int × Int × Bool × Int × List PD × Bool × Int × Int) × (List Int × Int × Int × Int × Int × Bool × Int × List PD × Bool × Int × Int)))) := fun s => f4j11B s.1.2.2.2 s.2.1.1 s.2.1.2 s.2.2.1.1 s.2.2.1.2.1 s.2.2.1.2.2.1 s.2.2.1.2.2.2.1 s.2.2.1.2.2.2.2.1 s.2.2.1.2.2.2.2.2.1 s.2.2.1.2.2.2.2.2.2.1 s.2.2.1.2.2.2.2.2.2.2.1 s.2.2.1.2.2.2.2.2.2.2.2.1 s.2.2.1.2.2.2.2.2.2.2.2.2.1 s.2.2.1.2.2.2.2.2.2.2.2.2.2 s.2.2.2.1 s.2.2.2.2.1 s.2.2.2.2.2.1 s.2.2.2.2.2.2.1 s.2.2.2.2.2.2.2.1 s.2.2.2.2.2.2.2.2.1 s.2.2.2.2.2.2.2.2.2.1 s.2.2.2.2.2.2.2.2.2.2.1 s.2.2.2.2.2.2.2.2.2.2.2.1 s.2.2.2.2.2.2.2.2.2.2.2.2.1 s.2.2.2.2.2.2.2.2.2.2.2.2.2
noncomputable def f4l9p : SP := { n := 119, ix := [11, 13, 14, 19], p := (.cons (.ptr 0 0) (.cons (.ptr 1 0) (.cons (.ptr 2 0) (.int .i64)))), hp := [(.cells (.cons (.nums .i64) (.int .i64))), (.cells (.cons (.nums .u8) (.cons (.int .i64) (.cons (.int .u64) (.cons (.int .u64) (.cons (.int .i64) (.cons .bool (.cons (.int .u64) (.cons (.sl 2) (.cons .bool (.cons (.int .i64) (.int .i64)))))))))))), (.cells (.cons (.nums .u8) (.cons (.int .i64) (.cons (.int .u64) (.cons (.int .u64) (.cons (.int .i64) (.cons .bool (.cons (.int .u64) (.cons (.sl 2) (.cons .bool (.cons (.int .i64) (.int .i64))))))))))))] }
noncomputable def f4l9x : List (Ex × SP) := [(.ret, { n := 119, ix := [10], p := .bool }), ((.exit 0), { n := 119, ix := [], p := .nil })]
noncomputable def f4l9B (a1 : Int) (a2 : List Int) (a3 : Int) (a4 : List Int) (a5 : Int) (a6 : Int) (a7 : Int) (a8 : Int) (a9 : Bool) (a10 : Int) (a11 : List PD) (a12 : Bool) (a13 : Int) (a14 : Int) (a15 : List Int) (a16 : Int) (a17 : Int) (a18 : Int) (a19 : Int) (a20 : Bool) (a21 : Int) (a22 : List PD) (a23 : Bool) (a24 : Int) (a25 : Int) : Option (((Unit × Unit × Unit × Int) × ((List Int × Int) × (List Int × Int × Int × Int × Int × Bool × Int × List PD × Bool × Int × Int) × (List Int × Int × Int × Int × Int × Bool × Int × List PD × Bool × Int × Int))) ⊕ (Bool ⊕ Unit)) :=
  cond (decide (a1 < 40)) (
    Option.bind (f9 a2 a3) fun y1 =>
    cond y1.1 (
      Option.bind (f4j11 (((), (), (), a1), ((y1.2.1, y1.2.2), (a4, a5, a6, a7, a8, a9, a10, a11, a12, a13, a14), (a15, a16, a17, a18, a19, a20, a21, a22, a23, a24, a25)))) fun y2 =>
      match y2 with
      | (.inl y3) =>
        some (.inr (.inl y3))
      | (.inr y4) =>
        some (.inl (((), (), (), y4.1.2.2.2), ((y4.2.1.1, y4.2.1.2), (y4.2.2.1.1, y4.2.2.1.2.1, y4.2.2.1.2.2.1, y4.2.2.1.2.2.2.1, y4.2.2.1.2.2.2.2.1, y4.2.2.1.2.2.2.2.2.1, y4.2.2.1.2.2.2.2.2.2.1, y4.2.2.1.2.2.2.2.2.2.2.1, y4.2.2.1.2.2.2.2.2.2.2.2.1, y4.2.2.1.2.2.2.2.2.2.2.2.2.1, y4.2.2.1.2.2.2.2.2.2.2.2.2.2), (y4.2.2.2.1, y4.2.2.2.2.1, y4.2.2.2.2.2.1, y4.2.2.2.2.2.2.1, y4.2.2.2.2.2.2.2.1, y4.2.2.2.2.2.2.2.2.1, y4.2.2.2.2.2.2.2.2.2.1, y4.2.2.2.2.2.2.2.2.2.2.1, y4.2.2.2.2.2.2.2.2.2.2.2.1, y4.2.2.2.2.2.2.2.2.2.2.2.2.1, y4.2.2.2.2.2.2.2.2.2.2.2.2.2))))) (
      some (.inr (.inr ())))) (
    some (.inr (.inr ())))
noncomputable def f4l9 : ((Unit × Unit × Unit × Int) × ((List Int × Int) × (List Int × Int × Int × Int × Int × Bool × Int × List PD × Bool × Int × Int) × (List Int × Int × Int × Int × Int × Bool × Int × List PD × Bool × Int × Int))) → Option (((Unit × Unit × Unit × Int) × ((List Int × Int) × (List Int × Int × Int × Int × Int × Bool × Int × List PD × Bool × Int × Int) × (List Int × Int × Int × Int × Int × Bool × Int × List PD × Bool × Int × Int))) ⊕ (Bool ⊕ Unit)) := fun s => f4l9B s.1.2.2.2 s.2.1.1 s.2.1.2 s.2.2.1.1 s.2.2.1.2.1 s.2.2.1.2.2.1 s.2.2.1.2.2.2.1 s.2.2.1.2.2.2.2.1 s.2.2.1.2.2.2.2.2.1 s.2.2.1.2.2.2.2.2.2.1 s.2.2.1.2.2.2.2.2.2.2.1 s.2.2.1.2.2.2.2.2.2.2.2.1 s.2.2.1.2.2.2.2.2.2.2.2.2.1 s.2.2.1.2.2.2.2.2.2.2.2.2.2 s.2.2.2.1 s.2.2.2.2.1 s.2.2.2.2.2.1 s.2.2.2.2.2.2.1 s.2.2.2.2.2.2.2.1 s.2.2.2.2.2.2.2.2.1 s.2.2.2.2.2.2.2.2.2.1 s.2.2.2.2.2.2.2.2.2.2.1 s.2.2.2.2.2.2.2.2.2.2.2.1 s.2.2.2.2.2.2.2.2.2.2.2.2.1 s.2.2.2.2.2.2.2.2.2.2.2.2.2
noncomputable def f4j8p : SP := { n := 119, ix := [11, 13, 14], p := (.cons (.ptr 0 0) (.cons (.ptr 1 0) (.ptr 2 0))), hp := [(.cells (.cons (.nums .i64) (.int .i64))), (.cells (.cons (.nums .u8) (.cons (.int .i64) (.cons (.int .u64) (.cons (.int .u64) (.cons (.int .i64) (.cons .bool (.cons (.int .u64) (.cons (.sl 2) (.cons .bool (.cons (.int .i64) (.int .i64)))))))))))), (.cells (.cons (.nums .u8) (.cons (.int .i64) (.cons (.int .u64) (.cons (.int .u64) (.cons (.int .i64) (.cons .bool (.cons (.int .u64) (.cons (.sl 2) (.cons .bool (.cons (.int .i64) (.int .i64))))))))))))] }
noncomputable def f4j8x : List (Ex × SP) := [(.ret, { n := 119, ix := [10], p := .bool })]
noncomputable def f4j8B (a1 : List Int) (a2 : Int) (a3 : List Int) (a4 : Int) (a5 : Int) (a6 : Int) (a7 : Int) (a8 : Bool) (a9 : Int) (a10 : List PD) (a11 : Bool) (a12 : Int) (a13 : Int) (a14 : List Int) (a15 : Int) (a16 : Int) (a17 : Int) (a18 : Int) (a19 : Bool) (a20 : Int) (a21 : List PD) (a22 : Bool) (a23 : Int) (a24 : Int) : Option Bool :=
  Option.bind (loopFix f4l9 (((), (), (), 0), ((a1, a2), (a3, a4, a5, a6, a7, a8, a9, a10, a11, a12, a13), (a14, a15, a16, a17, a18, a19, a20, a21, a22, a23, a24)))) fun y1 =>
  match y1 with
  | (.inl y2) =>
    some y2
  | (.inr y3) =>
    Option.bind f7 fun y4 =>
    some y4
noncomputable def f4j8 : ((Unit × Unit × Unit) × ((List Int × Int) × (List Int × Int × Int × Int × Int × Bool × Int × List PD × Bool × Int × Int) × (List Int × Int × Int × Int × Int × Bool × Int × List PD × Bool × Int × Int))) → Option Bool := fun s => f4j8B s.2.1.1 s.2.1.2 s.2.2.1.1 s.2.2.1.2.1 s.2.2.1.2.2.1 s.2.2.1.2.2.2.1 s.2.2.1.2.2.2.2.1 s.2.2.1.2.2.2.2.2.1 s.2.2.1.2.2.2.2.2.2.1 s.2.2.1.2.2.2.2.2.2.2.1 s.2.2.1.2.2.2.2.2.2.2.2.1 s.2.2.1.2.2.2.2.2.2.2.2.2.1 s.2.2.1.2.2.2.2.2.2.2.2.2.2 s.2.2.2.1 s.2.2.2.2.1 s.2.2.2.2.2.1 s.2.2.2.2.2.2.1 s.2.2.2.2.2.2.2.1 s.2.2.2.2.2.2.2.2.1 s.2.2.2.2.2.2.2.2.2.1 s.2.2.2.2.2.2.2.2.2.2.1 s.2.2.2.2.2.2.2.2.2.2.2.1 s.2.2.2.2.2.2.2.2.2.2.2.2.1 s.2.2.2.2.2.2.2.2.2.2.2.2.2
noncomputable def f4 (a1 : List Int) (a2 : Int) (a3 : Int) (a4 : Int) (a5 : Int) : Option Bool :=
  Option.bind (f8 a1) fun y1 =>
  Option.bind (f18 a2 7) fun y2 =>
  Option.bind (f12 4 y1.2.1 y1.2.2) fun y3 =>
  cond (inRange y3.1 4) (
    Option.bind ([a2, (IntKind.i64.wrap (y2 - 1)), 4, 3][(Int.toNat y3.1)]?) fun y4 =>
    Option.bind (f10 1 y4) fun y5 =>
    Option.bind (f10 1 y4) fun y6 =>
    Option.bind (f19 y5.1 y5.2.1 y5.2.2.1 y5.2.2.2.1 y5.2.2.2.2.1 y5.2.2.2.2.2.1 y5.2.2.2.2.2.2.1 y5.2.2.2.2.2.2.2.1 y5.2.2.2.2.2.2.2.2.1 y5.2.2.2.2.2.2.2.2.2.1 y5.2.2.2.2.2.2.2.2.2.2 a3 a4 a5) fun y7 =>
    Option.bind (f20 y6.1 y6.2.1 y6.2.2.1 y6.2.2.2.1 y6.2.2.2.2.1 y6.2.2.2.2.2.1 y6.2.2.2.2.2.2.1 y6.2.2.2.2.2.2.2.1 y6.2.2.2.2.2.2.2.2.1 y6.2.2.2.2.2.2.2.2.2.1 y6.2.2.2.2.2.2.2.2.2.2 a3 a4 a5) fun y8 =>
    cond (y7.2 != y8.2) (
      some false) (
      Option.bind (f21 y7.1.1 y7.1.2.1 y7.1.2.2.1 y7.1.2.2.2.1 y7.1.2.2.2.2.1 y7.1.2.2.2.2.2.1 y7.1.2.2.2.2.2.2.1 y7.1.2.2.2.2.2.2.2.1 y7.1.2.2.2.2.2.2.2.2.1 y7.1.2.2.2.2.2.2.2.2.2.1 y7.1.2.2.2.2.2.2.2.2.2.2 y8.1.1 y8.1.2.1 y8.1.2.2.1 y8.1.2.2.2.1 y8.1.2.2.2.2.1 y8.1.2.2.2.2.2.1 y8.1.2.2.2.2.2.2.1 y8.1.2.2.2.2.2.2.2.1 y8.1.2.2.2.2.2.2.2.2.1 y8.1.2.2.2.2.2.2.2.2.2.1 y8.1.2.2.2.2.2.2.2.2.2.2) fun y9 =>
      cond (!y9) (
        some false) (
        Option.bind (f4j8 (((), (), ()), ((y3.2.1, y3.2.2), (y5.1, y5.2.1, y5.2.2.1, y5.2.2.2.1, y5.2.2.2.2.1, y5.2.2.2.2.2.1, y5.2.2.2.2.2.2.1, y5.2.2.2.2.2.2.2.1, y5.2.2.2.2.2.2.2.2.1, y5.2.2.2.2.2.2.2.2.2.1, y5.2.2.2.2.2.2.2.2.2.2), (y6.1, y6.2.1, y6.2.2.1, y6.2.2.2.1, y6.2.2.2.2.1, y6.2.2.2.2.2.1, y6.2.2.2.2.2.2.1, y6.2.2.2.2.2.2.2.1, y6.2.2.2.2.2.2.2.2.1, y6.2.2.2.2.2.2.2.2.2.1, y6.2.2.2.2.2.2.2.2.2.2)))) fun y10 =>
        some y10))) none
noncomputable def f4C : Cal := tbl [(8, (ent (.nums .i64) [] (.ptr 0 0) [(.cells (.cons (.nums .i64) (.int .i64)))] f8W)), (18, (ent (.cons (.int .i64) (.int .i64)) [] (.int .i64) [] f18W)), (12, (ent (.cons (.ptr 0 0) (.int .i64)) [(.cells (.cons (.nums .i64) (.int .i64)))] (.int .i64) [(.cells (.cons (.nums .i64) (.int .i64)))] f12W)), (10, (ent (.cons (.int .i64) (.int .i64)) [] (.agg (.cons (.nums .u8) (.cons (.int .i64) (.cons (.int .u64) (.cons (.int .u64) (.cons (.int .i64) (.cons .bool (.cons (.int .u64) (.cons (.sl 2) (.cons .bool (.cons (.int .i64) (.int .i64)))))))))))) [] f10W)), (19, (ent (.cons (.agg (.cons (.nums .u8) (.cons (.int .i64) (.cons (.int .u64) (.cons (.int .u64) (.cons (.int .i64) (.cons .bool (.cons (.int .u64) (.cons (.sl 2) (.cons .bool (.cons (.int .i64) (.int .i64)))))))))))) (.cons (.int .i64) (.cons (.int .i64) (.int .i64)))) [] (.tup (.cons (.agg (.cons (.nums .u8) (.cons (.int .i64) (.cons (.int .u64) (.cons (.int .u64) (.cons (.int .i64) (.cons .bool (.cons (.int .u64) (.cons (.sl 2) (.cons .bool (.cons (.int .i64) (.int .i64)))))))))))) (.int .i64))) [] f19W)), (20, (ent (.cons (.agg (.cons (.nums .u8) (.cons (.int .i64) (.cons (.int .u64) (.cons (.int .u64) (.cons (.int .i64) (.cons .bool (.cons (.int .u64) (.cons (.sl 2) (.cons .bool (.cons (.int .i64) (.int .i64)))))))))))) (.cons (.int .i64) (.cons (.int .i64) (.int .i64)))) [] (.tup (.cons (.agg (.cons (.nums .u8) (.cons (.int .i64) (.cons (.int .u64) (.cons (.int .u64) (.cons (.int .i64) (.cons .bool (.cons (.int .u64) (.cons (.sl 2) (.cons .bool (.cons (.int .i64) (.int .i64)))))))))))) (.int .i64))) [] f20W)), (21, (ent (.cons (.agg (.cons (.nums .u8) (.cons (.int .i64) (.cons (.int .u64) (.cons (.int .u64) (.cons (.int .i64) (.cons .bool (.cons (.int .u64) (.cons (.sl 2) (.cons .bool (.cons (.int .i64) (.int .i64)))))))))))) (.agg (.cons (.nums .u8) (.cons (.int .i64) (.cons (.int .u64) (.cons (.int .u64) (.cons (.int .i64) (.cons .bool (.cons (.int .u64) (.cons (.sl 2) (.cons .bool (.cons (.int .i64) (.int .i64))))))))))))) [] .bool [] f21W)), (9, (ent (.ptr 0 0) [(.cells (.cons (.nums .i64) (.int .i64)))] .bool [(.cells (.cons (.nums .i64) (.int .i64)))] f9W)), (7, (ent .nil [] .bool [] f7W))]
theorem f4C_ok : CalOK Try.prog f4C ∧ CalNt f4C := tbl_ok (by
  intro p hp
  simp only [List.mem_cons, List.not_mem_nil, or_false] at hp
  rcases hp with rfl | rfl | rfl | rfl | rfl | rfl | rfl | rfl | rfl
  · exact f8_ok
  · exact f18_ok
  · exact f12_ok
  · exact f10_ok
  · exact f19_ok
  · exact f20_ok
  · exact f21_ok
  · exact f9_ok
  · exact f7_ok)
noncomputable def f4F : FH := { join := [(18, { keep := [11, 13, 14, 19] }), (14, { keep := [11, 13, 14, 19, 20, 21] }), (11, { keep := [11, 13, 14, 19] }), (8, { keep := [11, 13, 14] })], loops := [(9, { keep := [11, 13, 14, 19] }, { keep := [10] })] }
theorem f4j18_s (a1 : Int) (a2 : List Int) (a3 : Int) (a4 : List Int) (a5 : Int) (a6 : Int) (a7 : Int) (a8 : Int) (a9 : Bool) (a10 : Int) (a11 : List PD) (a12 : Bool) (a13 : Int) (a14 : Int) (a15 : List Int) (a16 : Int) (a17 : Int) (a18 : Int) (a19 : Int) (a20 : Bool) (a21 : Int) (a22 : List PD) (a23 : Bool) (a24 : Int) (a25 : Int) : joinC Try.prog f4C f4F [] [] 0 ((joinsAt 18 (codeOf Try.f4)).headD .skip) f4j18p f4j18x { keep := [10, 11, 13, 14, 19] } (((), (), (), a1), ((a2, a3), (a4, a5, a6, a7, a8, a9, a10, a11, a12, a13, a14), (a15, a16, a17, a18, a19, a20, a21, a22, a23, a24, a25))) _ some = f4j18 (((), (), (), a1), ((a2, a3), (a4, a5, a6, a7, a8, a9, a10, a11, a12, a13, a14), (a15, a16, a17, a18, a19, a20, a21, a22, a23, a24, a25))) := by kernel_rfl
theorem f4j18_t : ToldC Try.prog 0 (codeOf Try.f4) [] ((18, toldJ f4j18p f4j18x f4j18) :: []) :=
  ToldC.join f4F 0 (ToldC.nil 0) f4C_ok 18 ((joinsAt 18 (codeOf Try.f4)).headD .skip) (by kernel_rfl) (p := f4j18p) (px := f4j18x) (g := f4j18) (ho := { keep := [10, 11, 13, 14, 19] }) fun (x : ((Unit × Unit × Unit × Int) × ((List Int × Int) × (List Int × Int × Int × Int × Int × Bool × Int × List PD × Bool × Int × Int) × (List Int × Int × Int × Int × Int × Bool × Int × List PD × Bool × Int × Int)))) => f4j18_s x.1.2.2.2 x.2.1.1 x.2.1.2 x.2.2.1.1 x.2.2.1.2.1 x.2.2.1.2.2.1 x.2.2.1.2.2.2.1 x.2.2.1.2.2.2.2.1 x.2.2.1.2.2.2.2.2.1 x.2.2.1.2.2.2.2.2.2.1 x.2.2.1.2.2.2.2.2.2.2.1 x.2.2.1.2.2.2.2.2.2.2.2.1 x.2.2.1.2.2.2.2.2.2.2.2.2.1 x.2.2.1.2.2.2.2.2.2.2.2.2.2 x.2.2.2.1 x.2.2.2.2.1 x.2.2.2.2.2.1 x.2.2.2.2.2.2.1 x.2.2.2.2.2.2.2.1 x.2.2.2.2.2.2.2.2.1 x.2.2.2.2.2.2.2.2.2.1 x.2.2.2.2.2.2.2.2.2.2.1 x.2.2.2.2.2.2.2.2.2.2.2.1 x.2.2.2.2.2.2.2.2.2.2.2.2.1 x.2.2.2.2.2.2.2.2.2.2.2.2.2
theorem f4j14_s (a1 : Int) (a2 : Int) (a3 : Int) (a4 : List Int) (a5 : Int) (a6 : List Int) (a7 : Int) (a8 : Int) (a9 : Int) (a10 : Int) (a11 : Bool) (a12 : Int) (a13 : List PD) (a14 : Bool) (a15 : Int) (a16 : Int) (a17 : List Int) (a18 : Int) (a19 : Int) (a20 : Int) (a21 : Int) (a22 : Bool) (a23 : Int) (a24 : List PD) (a25 : Bool) (a26 : Int) (a27 : Int) : joinC Try.prog f4C f4F [] ((18, toldJ f4j18p f4j18x f4j18) :: []) 0 ((joinsAt 14 (codeOf Try.f4)).headD .skip) f4j14p f4j14x { keep := [10, 11, 13, 14, 19] } (((), (), (), a1, a2, a3), ((a4, a5), (a6, a7, a8, a9, a10, a11, a12, a13, a14, a15, a16), (a17, a18, a19, a20, a21, a22, a23, a24, a25, a26, a27))) _ some = f4j14 (((), (), (), a1, a2, a3), ((a4, a5), (a6, a7, a8, a9, a10, a11, a12, a13, a14, a15, a16), (a17, a18, a19, a20, a21, a22, a23, a24, a25, a26, a27))) := by kernel_rfl
theorem f4j14_t : ToldC Try.prog 0 (codeOf Try.f4) [] ((14, toldJ f4j14p f4j14x f4j14) :: ((18, toldJ f4j18p f4j18x f4j18) :: [])) :=
  ToldC.join f4F 0 f4j18_t f4C_ok 14 ((joinsAt 14 (codeOf Try.f4)).headD .skip) (by kernel_rfl) (p := f4j14p) (px := f4j14x) (g := f4j14) (ho := { keep := [10, 11, 13, 14, 19] }) fun (x : ((Unit × Unit × Unit × Int × Int × Int) × ((List Int × Int) × (List Int × Int × Int × Int × Int × Bool × Int × List PD × Bool × Int × Int) × (List Int × Int × Int × Int × Int × Bool × Int × List PD × Bool × Int × Int)))) => f4j14_s x.1.2.2.2.1 x.1.2.2.2.2.1 x.1.2.2.2.2.2 x.2.1.1 x.2.1.2 x.2.2.1.1 x.2.2.1.2.1 x.2.2.1.2.2.1 x.2.2.1.2.2.2.1 x.2.2.1.2.2.2.2.1 x.2.2.1.2.2.2.2.2.1 x.2.2.1.2.2.2.2.2.2.1 x.2.2.1.2.2.2.2.2.2.2.1 x.2.2.1.2.2.2.2.2.2.2.2.1 x.2.2.1.2.2.2.2.2.2.2.2.2.1 x.2.2.1.2.2.2.2.2.2.2.2.2.2 x.2.2.2.1 x.2.2.2.2.1 x.2.2.2.2.2.1 x.2.2.2.2.2.2.1 x.2.2.2.2.2.2.2.1 x.2.2.2.2.2.2.2.2.1 x.2.2.2.2.2.2.2.2.2.1 x.2.2.2.2.2.2.2.2.2.2.1 x.2.2.2.2.2.2.2.2.2.2.2.1 x.2.2.2.2.2.2.2.2.2.2.2.2.1 x.2.2.2.2.2.2.2.2.2.2.2.2.2
theorem f4j11_s (a1 : Int) (a2 : List Int) (a3 : Int) (a4 : List Int) (a5 : Int) (a6 : Int) (a7 : Int) (a8 : Int) (a9 : Bool) (a10 : Int) (a11 : List PD) (a12 : Bool) (a13 : Int) (a14 : Int) (a15 : List Int) (a16 : Int) (a17 : Int) (a18 : Int) (a19 : Int) (a20 : Bool) (a21 : Int) (a22 : List PD) (a23 : Bool) (a24 : Int) (a25 : Int) : joinC Try.prog f4C f4F [] ((14, toldJ f4j14p f4j14x f4j14) :: ((18, toldJ f4j18p f4j18x f4j18) :: [])) 0 ((joinsAt 11 (codeOf Try.f4)).headD .skip) f4j11p f4j11x { keep := [10, 11, 13, 14, 19] } (((), (), (), a1), ((a2, a3), (a4, a5, a6, a7, a8, a9, a10, a11, a12, a13, a14), (a15, a16, a17, a18, a19, a20, a21, a22, a23, a24, a25))) _ some = f4j11 (((), (), (), a1), ((a2, a3), (a4, a5, a6, a7, a8, a9, a10, a11, a12, a13, a14), (a15, a16, a17, a18, a19, a20, a21, a22, a23, a24, a25))) := by kernel_rfl
theorem f4j11_t : ToldC Try.prog 0 (codeOf Try.f4) [] ((11, toldJ f4j11p f4j11x f4j11) :: ((14, toldJ f4j14p f4j14x f4j14) :: ((18, toldJ f4j18p f4j18x f4j18) :: []))) :=
  ToldC.join f4F 0 f4j14_t f4C_ok 11 ((joinsAt 11 (codeOf Try.f4)).headD .skip) (by kernel_rfl) (p := f4j11p) (px := f4j11x) (g := f4j11) (ho := { keep := [10, 11, 13, 14, 19] }) fun (x : ((Unit × Unit × Unit × Int) × ((List Int × Int) × (List Int × Int × Int × Int × Int × Bool × Int × List PD × Bool × Int × Int) × (List Int × Int × Int × Int × Int × Bool × Int × List PD × Bool × Int × Int)))) => f4j11_s x.1.2.2.2 x.2.1.1 x.2.1.2 x.2.2.1.1 x.2.2.1.2.1 x.2.2.1.2.2.1 x.2.2.1.2.2.2.1 x.2.2.1.2.2.2.2.1 x.2.2.1.2.2.2.2.2.1 x.2.2.1.2.2.2.2.2.2.1 x.2.2.1.2.2.2.2.2.2.2.1 x.2.2.1.2.2.2.2.2.2.2.2.1 x.2.2.1.2.2.2.2.2.2.2.2.2.1 x.2.2.1.2.2.2.2.2.2.2.2.2.2 x.2.2.2.1 x.2.2.2.2.1 x.2.2.2.2.2.1 x.2.2.2.2.2.2.1 x.2.2.2.2.2.2.2.1 x.2.2.2.2.2.2.2.2.1 x.2.2.2.2.2.2.2.2.2.1 x.2.2.2.2.2.2.2.2.2.2.1 x.2.2.2.2.2.2.2.2.2.2.2.1 x.2.2.2.2.2.2.2.2.2.2.2.2.1 x.2.2.2.2.2.2.2.2.2.2.2.2.2
theorem f4l9_s (a1 : Int) (a2 : List Int) (a3 : Int) (a4 : List Int) (a5 : Int) (a6 : Int) (a7 : Int) (a8 : Int) (a9 : Bool) (a10 : Int) (a11 : List PD) (a12 : Bool) (a13 : Int) (a14 : Int) (a15 : List Int) (a16 : Int) (a17 : Int) (a18 : Int) (a19 : Int) (a20 : Bool) (a21 : Int) (a22 : List PD) (a23 : Bool) (a24 : Int) (a25 : Int) : stepC Try.prog f4C f4F [] ((11, toldJ f4j11p f4j11x f4j11) :: ((14, toldJ f4j14p f4j14x f4j14) :: ((18, toldJ f4j18p f4j18x f4j18) :: []))) 0 ((loopsAt 9 (codeOf Try.f4)).headD .skip) f4l9p f4l9x { keep := [11, 13, 14, 19] } { keep := [10] } (((), (), (), a1), ((a2, a3), (a4, a5, a6, a7, a8, a9, a10, a11, a12, a13, a14), (a15, a16, a17, a18, a19, a20, a21, a22, a23, a24, a25))) _ some = f4l9 (((), (), (), a1), ((a2, a3), (a4, a5, a6, a7, a8, a9, a10, a11, a12, a13, a14), (a15, a16, a17, a18, a19, a20, a21, a22, a23, a24, a25))) := by kernel_rfl
theorem f4l9_t : ToldC Try.prog 0 (codeOf Try.f4) ((9, toldL f4l9p f4l9x f4l9) :: []) ((11, toldJ f4j11p f4j11x f4j11) :: ((14, toldJ f4j14p f4j14x f4j14) :: ((18, toldJ f4j18p f4j18x f4j18) :: []))) :=
  ToldC.loop f4F 0 f4j11_t f4C_ok 9 ((loopsAt 9 (codeOf Try.f4)).headD .skip) (by kernel_rfl) (p := f4l9p) (px := f4l9x) (g := f4l9) (hi := { keep := [11, 13, 14, 19] }) (ho := { keep := [10] }) (by kernel_rfl) fun (x : ((Unit × Unit × Unit × Int) × ((List Int × Int) × (List Int × Int × Int × Int × Int × Bool × Int × List PD × Bool × Int × Int) × (List Int × Int × Int × Int × Int × Bool × Int × List PD × Bool × Int × Int)))) => f4l9_s x.1.2.2.2 x.2.1.1 x.2.1.2 x.2.2.1.1 x.2.2.1.2.1 x.2.2.1.2.2.1 x.2.2.1.2.2.2.1 x.2.2.1.2.2.2.2.1 x.2.2.1.2.2.2.2.2.1 x.2.2.1.2.2.2.2.2.2.1 x.2.2.1.2.2.2.2.2.2.2.1 x.2.2.1.2.2.2.2.2.2.2.2.1 x.2.2.1.2.2.2.2.2.2.2.2.2.1 x.2.2.1.2.2.2.2.2.2.2.2.2.2 x.2.2.2.1 x.2.2.2.2.1 x.2.2.2.2.2.1 x.2.2.2.2.2.2.1 x.2.2.2.2.2.2.2.1 x.2.2.2.2.2.2.2.2.1 x.2.2.2.2.2.2.2.2.2.1 x.2.2.2.2.2.2.2.2.2.2.1 x.2.2.2.2.2.2.2.2.2.2.2.1 x.2.2.2.2.2.2.2.2.2.2.2.2.1 x.2.2.2.2.2.2.2.2.2.2.2.2.2
theorem f4j8_s (a1 : List Int) (a2 : Int) (a3 : List Int) (a4 : Int) (a5 : Int) (a6 : Int) (a7 : Int) (a8 : Bool) (a9 : Int) (a10 : List PD) (a11 : Bool) (a12 : Int) (a13 : Int) (a14 : List Int) (a15 : Int) (a16 : Int) (a17 : Int) (a18 : Int) (a19 : Bool) (a20 : Int) (a21 : List PD) (a22 : Bool) (a23 : Int) (a24 : Int) : joinC Try.prog f4C f4F ((9, toldL f4l9p f4l9x f4l9) :: []) ((11, toldJ f4j11p f4j11x f4j11) :: ((14, toldJ f4j14p f4j14x f4j14) :: ((18, toldJ f4j18p f4j18x f4j18) :: []))) 0 ((joinsAt 8 (codeOf Try.f4)).headD .skip) f4j8p f4j8x { keep := [10] } (((), (), ()), ((a1, a2), (a3, a4, a5, a6, a7, a8, a9, a10, a11, a12, a13), (a14, a15, a16, a17, a18, a19, a20, a21, a22, a23, a24))) _ some = f4j8 (((), (), ()), ((a1, a2), (a3, a4, a5, a6, a7, a8, a9, a10, a11, a12, a13), (a14, a15, a16, a17, a18, a19, a20, a21, a22, a23, a24))) := by kernel_rfl
theorem f4j8_t : ToldC Try.prog 0 (codeOf Try.f4) ((9, toldL f4l9p f4l9x f4l9) :: []) ((8, toldJ f4j8p f4j8x f4j8) :: ((11, toldJ f4j11p f4j11x f4j11) :: ((14, toldJ f4j14p f4j14x f4j14) :: ((18, toldJ f4j18p f4j18x f4j18) :: [])))) :=
  ToldC.join f4F 0 f4l9_t f4C_ok 8 ((joinsAt 8 (codeOf Try.f4)).headD .skip) (by kernel_rfl) (p := f4j8p) (px := f4j8x) (g := f4j8) (ho := { keep := [10] }) fun (x : ((Unit × Unit × Unit) × ((List Int × Int) × (List Int × Int × Int × Int × Int × Bool × Int × List PD × Bool × Int × Int) × (List Int × Int × Int × Int × Int × Bool × Int × List PD × Bool × Int × Int)))) => f4j8_s x.2.1.1 x.2.1.2 x.2.2.1.1 x.2.2.1.2.1 x.2.2.1.2.2.1 x.2.2.1.2.2.2.1 x.2.2.1.2.2.2.2.1 x.2.2.1.2.2.2.2.2.1 x.2.2.1.2.2.2.2.2.2.1 x.2.2.1.2.2.2.2.2.2.2.1 x.2.2.1.2.2.2.2.2.2.2.2.1 x.2.2.1.2.2.2.2.2.2.2.2.2.1 x.2.2.1.2.2.2.2.2.2.2.2.2.2 x.2.2.2.1 x.2.2.2.2.1 x.2.2.2.2.2.1 x.2.2.2.2.2.2.1 x.2.2.2.2.2.2.2.1 x.2.2.2.2.2.2.2.2.1 x.2.2.2.2.2.2.2.2.2.1 x.2.2.2.2.2.2.2.2.2.2.1 x.2.2.2.2.2.2.2.2.2.2.2.1 x.2.2.2.2.2.2.2.2.2.2.2.2.1 x.2.2.2.2.2.2.2.2.2.2.2.2.2
theorem f4_b (a1 : List Int) (a2 : Int) (a3 : Int) (a4 : Int) (a5 : Int) : bodyC Try.prog f4C f4F ((9, toldL f4l9p f4l9x f4l9) :: []) ((8, toldJ f4j8p f4j8x f4j8) :: ((11, toldJ f4j11p f4j11x f4j11) :: ((14, toldJ f4j14p f4j14x f4j14) :: ((18, toldJ f4j18p f4j18x f4j18) :: [])))) { keep := [] } 4 (.cons (.nums .i64) (.cons (.int .i64) (.cons (.int .i64) (.cons (.int .i64) (.int .i64))))) [] .bool [] (a1, a2, a3, a4, a5) _ some = f4 a1 a2 a3 a4 a5 := by kernel_rfl
noncomputable def f4W (x : TyA (.cons (.nums .i64) (.cons (.int .i64) (.cons (.int .i64) (.cons (.int .i64) (.int .i64))))) []) : Option (TyR .bool []) := f4 x.1 x.2.1 x.2.2.1 x.2.2.2.1 x.2.2.2.2
theorem f4_ok : EntOK Try.prog 4 (ent (.cons (.nums .i64) (.cons (.int .i64) (.cons (.int .i64) (.cons (.int .i64) (.int .i64))))) [] .bool [] f4W) :=
  ent_ok f4F f4C_ok (hp := []) (fn := Try.f4) (by kernel_rfl) f4j8_t fun (x : (List Int × Int × Int × Int × Int)) => f4_b x.1 x.2.1 x.2.2.1 x.2.2.2.1 x.2.2.2.2

/-! f6: passkey/passkeylaw30.AccountCopies -/
noncomputable def f6j9p : SP := { n := 61, ix := [0, 3, 4, 5, 6], p := (.cons (.sl 1) (.cons (.ptr 0 0) (.cons (.ptr 1 0) (.cons (.int .i64) (.int .i64))))), hp := [(.cells (.cons (.nums .u8) (.cons (.int .i64) (.cons (.int .u64) (.cons (.int .u64) (.cons (.int .i64) (.cons .bool (.cons (.int .u64) (.cons (.sl 2) (.cons .bool (.cons (.int .i64) (.int .i64)))))))))))), (.ints .i64 2)] }
noncomputable def f6j9x : List (Ex × SP) := [((.exit 1), { n := 61, ix := [0, 3, 4, 5], p := (.cons (.sl 1) (.cons (.ptr 0 0) (.cons (.ptr 1 0) (.int .i64)))), hp := [(.cells (.cons (.nums .u8) (.cons (.int .i64) (.cons (.int .u64) (.cons (.int .u64) (.cons (.int .i64) (.cons .bool (.cons (.int .u64) (.cons (.sl 2) (.cons .bool (.cons (.int .i64) (.int .i64)))))))))))), (.ints .i64 2)] }), (.ret, { n := 61, ix := [2], p := .bool, hp := [(.cells (.cons (.nums .u8) (.cons (.int .i64) (.cons (.int .u64) (.cons (.int .u64) (.cons (.int .i64) (.cons .bool (.cons (.int .u64) (.cons (.sl 2) (.cons .bool (.cons (.int .i64) (.int .i64)))))))))))), (.ints .i64 2)] }), (.norm, { n := 61, ix := [0, 3, 4, 5], p := (.cons (.sl 1) (.cons (.ptr 0 0) (.cons (.ptr 1 0) (.int .i64)))), hp := [(.cells (.cons (.nums .u8) (.cons (.int .i64) (.cons (.int .u64) (.cons (.int .u64) (.cons (.int .i64) (.cons .bool (.cons (.int .u64) (.cons (.sl 2) (.cons .bool (.cons (.int .i64) (.int .i64)))))))))))), (.ints .i64 2)] })]
noncomputable def f6j9 : ((List PD × Unit × Unit × Int × Int) × ((List Int × Int × Int × Int × Int × Bool × Int × List PD × Bool × Int × Int) × List Int)) → Option (((List PD × Unit × Unit × Int) × ((List Int × Int × Int × Int × Int × Bool × Int × List PD × Bool × Int × Int) × List Int)) ⊕ ((Bool × ((List Int × Int × Int × Int × Int × Bool × Int × List PD × Bool × Int × Int) × List Int)) ⊕ ((List PD × Unit × Unit × Int) × ((List Int × Int × Int × Int × Int × Bool × Int × List PD × Bool × Int × Int) × List Int)))) := fun s => match s with
  | ((a1, (), (), a2, a3), ((a4, a5, a6, a7, a8, a9, a10, a11, a12, a13, a14), a15)) =>
    cond (inRange a3 2) (
      Option.bind (a15[(Int.toNat a3)]?) fun y1 =>
      cond (decide (y1 > 15)) (
        some (.inl ((a1, (), (), a2), ((a4, a5, a6, a7, a8, a9, a10, a11, a12, a13, a14), a15)))) (
        cond (inRange a3 2) (
          Option.bind (a15[(Int.toNat a3)]?) fun y2 =>
          cond (inRange a3 2) (
            cond (decide ((Int.toNat a3) < 2)) (
              Option.bind (f19 a4 a5 a6 a7 a8 a9 a10 a11 a12 a13 a14 y1 0 a2) fun y3 =>
              cond (inRange (IntKind.i64.wrap (1 - a3)) 2) (
                Option.bind ((a15.set (Int.toNat a3) (IntKind.i64.wrap (y2 + 1)))[(Int.toNat (IntKind.i64.wrap (1 - a3)))]?) fun y4 =>
                cond (decide (y4 > y1)) (
                  cond (y3.2 == 37) (
                    cond y3.1.2.2.2.2.2.2.2.2.1 (
                      Option.bind f7 fun y5 =>
                      some (.inr (.inl (y5, ((a4, a5, a6, a7, a8, a9, a10, a11, a12, a13, a14), (a15.set (Int.toNat a3) (IntKind.i64.wrap (y2 + 1)))))))) (
                      some (.inr (.inl (false, ((a4, a5, a6, a7, a8, a9, a10, a11, a12, a13, a14), (a15.set (Int.toNat a3) (IntKind.i64.wrap (y2 + 1))))))))) (
                    some (.inr (.inl (false, ((a4, a5, a6, a7, a8, a9, a10, a11, a12, a13, a14), (a15.set (Int.toNat a3) (IntKind.i64.wrap (y2 + 1))))))))) (
                  cond (y3.2 != 0) (
                    some (.inr (.inl (false, ((a4, a5, a6, a7, a8, a9, a10, a11, a12, a13, a14), (a15.set (Int.toNat a3) (IntKind.i64.wrap (y2 + 1)))))))) (
                    some (.inr (.inr ((a1, (), (), a2), ((y3.1.1, y3.1.2.1, y3.1.2.2.1, y3.1.2.2.2.1, y3.1.2.2.2.2.1, y3.1.2.2.2.2.2.1, y3.1.2.2.2.2.2.2.1, y3.1.2.2.2.2.2.2.2.1, y3.1.2.2.2.2.2.2.2.2.1, y3.1.2.2.2.2.2.2.2.2.2.1, y3.1.2.2.2.2.2.2.2.2.2.2), (a15.set (Int.toNat a3) (IntKind.i64.wrap (y2 + 1)))))))))) none) none) none) none)) none
noncomputable def f6j6p : SP := { n := 61, ix := [0, 3, 4, 5], p := (.cons (.sl 1) (.cons (.ptr 0 0) (.cons (.ptr 1 0) (.int .i64)))), hp := [(.cells (.cons (.nums .u8) (.cons (.int .i64) (.cons (.int .u64) (.cons (.int .u64) (.cons (.int .i64) (.cons .bool (.cons (.int .u64) (.cons (.sl 2) (.cons .bool (.cons (.int .i64) (.int .i64)))))))))))), (.ints .i64 2)] }
noncomputable def f6j6x : List (Ex × SP) := [(.norm, { n := 61, ix := [0, 3, 4, 5], p := (.cons (.sl 1) (.cons (.ptr 0 0) (.cons (.ptr 1 0) (.int .i64)))), hp := [(.cells (.cons (.nums .u8) (.cons (.int .i64) (.cons (.int .u64) (.cons (.int .u64) (.cons (.int .i64) (.cons .bool (.cons (.int .u64) (.cons (.sl 2) (.cons .bool (.cons (.int .i64) (.int .i64)))))))))))), (.ints .i64 2)] }), (.ret, { n := 61, ix := [2], p := .bool })]
noncomputable def f6j6 : ((List PD × Unit × Unit × Int) × ((List Int × Int × Int × Int × Int × Bool × Int × List PD × Bool × Int × Int) × List Int)) → Option (((List PD × Unit × Unit × Int) × ((List Int × Int × Int × Int × Int × Bool × Int × List PD × Bool × Int × Int) × List Int)) ⊕ Bool) := fun s => match s with
  | ((a1, (), (), a2), ((a3, a4, a5, a6, a7, a8, a9, a10, a11, a12, a13), a14)) =>
    Option.bind (getI a1 a2) fun y1 =>
    Option.bind (PD.boolAt y1 0) fun y2 =>
    cond y2 (
      Option.bind (f6j9 ((a1, (), (), a2, 1), ((a3, a4, a5, a6, a7, a8, a9, a10, a11, a12, a13), a14))) fun y3 =>
      match y3 with
      | (.inl y4) =>
        some (.inl ((y4.1.1, (), (), (IntKind.i64.wrap (y4.1.2.2.2 + 1))), ((y4.2.1.1, y4.2.1.2.1, y4.2.1.2.2.1, y4.2.1.2.2.2.1, y4.2.1.2.2.2.2.1, y4.2.1.2.2.2.2.2.1, y4.2.1.2.2.2.2.2.2.1, y4.2.1.2.2.2.2.2.2.2.1, y4.2.1.2.2.2.2.2.2.2.2.1, y4.2.1.2.2.2.2.2.2.2.2.2.1, y4.2.1.2.2.2.2.2.2.2.2.2.2), y4.2.2)))
      | (.inr (.inl y5)) =>
        some (.inr y5.1)
      | (.inr (.inr y6)) =>
        some (.inl ((y6.1.1, (), (), (IntKind.i64.wrap (y6.1.2.2.2 + 1))), ((y6.2.1.1, y6.2.1.2.1, y6.2.1.2.2.1, y6.2.1.2.2.2.1, y6.2.1.2.2.2.2.1, y6.2.1.2.2.2.2.2.1, y6.2.1.2.2.2.2.2.2.1, y6.2.1.2.2.2.2.2.2.2.1, y6.2.1.2.2.2.2.2.2.2.2.1, y6.2.1.2.2.2.2.2.2.2.2.2.1, y6.2.1.2.2.2.2.2.2.2.2.2.2), y6.2.2)))) (
      Option.bind (f6j9 ((a1, (), (), a2, 0), ((a3, a4, a5, a6, a7, a8, a9, a10, a11, a12, a13), a14))) fun y7 =>
      match y7 with
      | (.inl y8) =>
        some (.inl ((y8.1.1, (), (), (IntKind.i64.wrap (y8.1.2.2.2 + 1))), ((y8.2.1.1, y8.2.1.2.1, y8.2.1.2.2.1, y8.2.1.2.2.2.1, y8.2.1.2.2.2.2.1, y8.2.1.2.2.2.2.2.1, y8.2.1.2.2.2.2.2.2.1, y8.2.1.2.2.2.2.2.2.2.1, y8.2.1.2.2.2.2.2.2.2.2.1, y8.2.1.2.2.2.2.2.2.2.2.2.1, y8.2.1.2.2.2.2.2.2.2.2.2.2), y8.2.2)))
      | (.inr (.inl y9)) =>
        some (.inr y9.1)
      | (.inr (.inr y10)) =>
        some (.inl ((y10.1.1, (), (), (IntKind.i64.wrap (y10.1.2.2.2 + 1))), ((y10.2.1.1, y10.2.1.2.1, y10.2.1.2.2.1, y10.2.1.2.2.2.1, y10.2.1.2.2.2.2.1, y10.2.1.2.2.2.2.2.1, y10.2.1.2.2.2.2.2.2.1, y10.2.1.2.2.2.2.2.2.2.1, y10.2.1.2.2.2.2.2.2.2.2.1, y10.2.1.2.2.2.2.2.2.2.2.2.1, y10.2.1.2.2.2.2.2.2.2.2.2.2), y10.2.2))))
noncomputable def f6l4p : SP := { n := 61, ix := [0, 3, 4, 5], p := (.cons (.sl 1) (.cons (.ptr 0 0) (.cons (.ptr 1 0) (.int .i64)))), hp := [(.cells (.cons (.nums .u8) (.cons (.int .i64) (.cons (.int .u64) (.cons (.int .u64) (.cons (.int .i64) (.cons .bool (.cons (.int .u64) (.cons (.sl 2) (.cons .bool (.cons (.int .i64) (.int .i64)))))))))))), (.ints .i64 2)] }
noncomputable def f6l4x : List (Ex × SP) := [(.ret, { n := 61, ix := [2], p := .bool }), ((.exit 0), { n := 61, ix := [], p := .nil })]
noncomputable def f6l4 : ((List PD × Unit × Unit × Int) × ((List Int × Int × Int × Int × Int × Bool × Int × List PD × Bool × Int × Int) × List Int)) → Option (((List PD × Unit × Unit × Int) × ((List Int × Int × Int × Int × Int × Bool × Int × List PD × Bool × Int × Int) × List Int)) ⊕ (Bool ⊕ Unit)) := fun s => match s with
  | ((a1, (), (), a2), ((a3, a4, a5, a6, a7, a8, a9, a10, a11, a12, a13), a14)) =>
    cond (decide (a2 < (((a1.length) : Nat) : Int))) (
      cond (decide (a2 < 32)) (
        Option.bind (f6j6 ((a1, (), (), a2), ((a3, a4, a5, a6, a7, a8, a9, a10, a11, a12, a13), a14))) fun y1 =>
        match y1 with
        | (.inl y2) =>
          some (.inl ((y2.1.1, (), (), y2.1.2.2.2), ((y2.2.1.1, y2.2.1.2.1, y2.2.1.2.2.1, y2.2.1.2.2.2.1, y2.2.1.2.2.2.2.1, y2.2.1.2.2.2.2.2.1, y2.2.1.2.2.2.2.2.2.1, y2.2.1.2.2.2.2.2.2.2.1, y2.2.1.2.2.2.2.2.2.2.2.1, y2.2.1.2.2.2.2.2.2.2.2.2.1, y2.2.1.2.2.2.2.2.2.2.2.2.2), y2.2.2)))
        | (.inr y3) =>
          some (.inr (.inl y3))) (
        some (.inr (.inr ())))) (
      some (.inr (.inr ())))
noncomputable def f6 (a1 : List PD) : Option Bool :=
  Option.bind (f10 1 4) fun y1 =>
  Option.bind (loopFix f6l4 ((a1, (), (), 0), ((y1.1, y1.2.1, y1.2.2.1, y1.2.2.2.1, y1.2.2.2.2.1, y1.2.2.2.2.2.1, y1.2.2.2.2.2.2.1, y1.2.2.2.2.2.2.2.1, y1.2.2.2.2.2.2.2.2.1, y1.2.2.2.2.2.2.2.2.2.1, y1.2.2.2.2.2.2.2.2.2.2), [0, 0]))) fun y2 =>
  match y2 with
  | (.inl y3) =>
    some y3
  | (.inr y4) =>
    Option.bind f7 fun y5 =>
    some y5
noncomputable def f6C : Cal := tbl [(10, (ent (.cons (.int .i64) (.int .i64)) [] (.agg (.cons (.nums .u8) (.cons (.int .i64) (.cons (.int .u64) (.cons (.int .u64) (.cons (.int .i64) (.cons .bool (.cons (.int .u64) (.cons (.sl 2) (.cons .bool (.cons (.int .i64) (.int .i64)))))))))))) [] f10W)), (19, (ent (.cons (.agg (.cons (.nums .u8) (.cons (.int .i64) (.cons (.int .u64) (.cons (.int .u64) (.cons (.int .i64) (.cons .bool (.cons (.int .u64) (.cons (.sl 2) (.cons .bool (.cons (.int .i64) (.int .i64)))))))))))) (.cons (.int .i64) (.cons (.int .i64) (.int .i64)))) [] (.tup (.cons (.agg (.cons (.nums .u8) (.cons (.int .i64) (.cons (.int .u64) (.cons (.int .u64) (.cons (.int .i64) (.cons .bool (.cons (.int .u64) (.cons (.sl 2) (.cons .bool (.cons (.int .i64) (.int .i64)))))))))))) (.int .i64))) [] f19W)), (7, (ent .nil [] .bool [] f7W))]
theorem f6C_ok : CalOK Try.prog f6C ∧ CalNt f6C := tbl_ok (by
  intro p hp
  simp only [List.mem_cons, List.not_mem_nil, or_false] at hp
  rcases hp with rfl | rfl | rfl
  · exact f10_ok
  · exact f19_ok
  · exact f7_ok)
noncomputable def f6F : FH := { join := [(9, { keep := [0, 3, 4, 5, 6] }), (6, { keep := [0, 3, 4, 5] })], loops := [(4, { keep := [0, 3, 4, 5] }, { keep := [2] })] }
theorem f6j9_s (a1 : List PD) (a2 : Int) (a3 : Int) (a4 : List Int) (a5 : Int) (a6 : Int) (a7 : Int) (a8 : Int) (a9 : Bool) (a10 : Int) (a11 : List PD) (a12 : Bool) (a13 : Int) (a14 : Int) (a15 : List Int) : joinC Try.prog f6C f6F [] [] 0 ((joinsAt 9 (codeOf Try.f6)).headD .skip) f6j9p f6j9x { keep := [0, 2, 3, 4, 5] } ((a1, (), (), a2, a3), ((a4, a5, a6, a7, a8, a9, a10, a11, a12, a13, a14), a15)) _ some = f6j9 ((a1, (), (), a2, a3), ((a4, a5, a6, a7, a8, a9, a10, a11, a12, a13, a14), a15)) := by kernel_rfl
theorem f6j9_t : ToldC Try.prog 0 (codeOf Try.f6) [] ((9, toldJ f6j9p f6j9x f6j9) :: []) :=
  ToldC.join f6F 0 (ToldC.nil 0) f6C_ok 9 ((joinsAt 9 (codeOf Try.f6)).headD .skip) (by kernel_rfl) (p := f6j9p) (px := f6j9x) (g := f6j9) (ho := { keep := [0, 2, 3, 4, 5] }) fun (x : ((List PD × Unit × Unit × Int × Int) × ((List Int × Int × Int × Int × Int × Bool × Int × List PD × Bool × Int × Int) × List Int))) => f6j9_s x.1.1 x.1.2.2.2.1 x.1.2.2.2.2 x.2.1.1 x.2.1.2.1 x.2.1.2.2.1 x.2.1.2.2.2.1 x.2.1.2.2.2.2.1 x.2.1.2.2.2.2.2.1 x.2.1.2.2.2.2.2.2.1 x.2.1.2.2.2.2.2.2.2.1 x.2.1.2.2.2.2.2.2.2.2.1 x.2.1.2.2.2.2.2.2.2.2.2.1 x.2.1.2.2.2.2.2.2.2.2.2.2 x.2.2
theorem f6j6_s (a1 : List PD) (a2 : Int) (a3 : List Int) (a4 : Int) (a5 : Int) (a6 : Int) (a7 : Int) (a8 : Bool) (a9 : Int) (a10 : List PD) (a11 : Bool) (a12 : Int) (a13 : Int) (a14 : List Int) : joinC Try.prog f6C f6F [] ((9, toldJ f6j9p f6j9x f6j9) :: []) 0 ((joinsAt 6 (codeOf Try.f6)).headD .skip) f6j6p f6j6x { keep := [0, 2, 3, 4, 5] } ((a1, (), (), a2), ((a3, a4, a5, a6, a7, a8, a9, a10, a11, a12, a13), a14)) _ some = f6j6 ((a1, (), (), a2), ((a3, a4, a5, a6, a7, a8, a9, a10, a11, a12, a13), a14)) := by kernel_rfl
theorem f6j6_t : ToldC Try.prog 0 (codeOf Try.f6) [] ((6, toldJ f6j6p f6j6x f6j6) :: ((9, toldJ f6j9p f6j9x f6j9) :: [])) :=
  ToldC.join f6F 0 f6j9_t f6C_ok 6 ((joinsAt 6 (codeOf Try.f6)).headD .skip) (by kernel_rfl) (p := f6j6p) (px := f6j6x) (g := f6j6) (ho := { keep := [0, 2, 3, 4, 5] }) fun (x : ((List PD × Unit × Unit × Int) × ((List Int × Int × Int × Int × Int × Bool × Int × List PD × Bool × Int × Int) × List Int))) => f6j6_s x.1.1 x.1.2.2.2 x.2.1.1 x.2.1.2.1 x.2.1.2.2.1 x.2.1.2.2.2.1 x.2.1.2.2.2.2.1 x.2.1.2.2.2.2.2.1 x.2.1.2.2.2.2.2.2.1 x.2.1.2.2.2.2.2.2.2.1 x.2.1.2.2.2.2.2.2.2.2.1 x.2.1.2.2.2.2.2.2.2.2.2.1 x.2.1.2.2.2.2.2.2.2.2.2.2 x.2.2
theorem f6l4_s (a1 : List PD) (a2 : Int) (a3 : List Int) (a4 : Int) (a5 : Int) (a6 : Int) (a7 : Int) (a8 : Bool) (a9 : Int) (a10 : List PD) (a11 : Bool) (a12 : Int) (a13 : Int) (a14 : List Int) : stepC Try.prog f6C f6F [] ((6, toldJ f6j6p f6j6x f6j6) :: ((9, toldJ f6j9p f6j9x f6j9) :: [])) 0 ((loopsAt 4 (codeOf Try.f6)).headD .skip) f6l4p f6l4x { keep := [0, 3, 4, 5] } { keep := [2] } ((a1, (), (), a2), ((a3, a4, a5, a6, a7, a8, a9, a10, a11, a12, a13), a14)) _ some = f6l4 ((a1, (), (), a2), ((a3, a4, a5, a6, a7, a8, a9, a10, a11, a12, a13), a14)) := by kernel_rfl
theorem f6l4_t : ToldC Try.prog 0 (codeOf Try.f6) ((4, toldL f6l4p f6l4x f6l4) :: []) ((6, toldJ f6j6p f6j6x f6j6) :: ((9, toldJ f6j9p f6j9x f6j9) :: [])) :=
  ToldC.loop f6F 0 f6j6_t f6C_ok 4 ((loopsAt 4 (codeOf Try.f6)).headD .skip) (by kernel_rfl) (p := f6l4p) (px := f6l4x) (g := f6l4) (hi := { keep := [0, 3, 4, 5] }) (ho := { keep := [2] }) (by kernel_rfl) fun (x : ((List PD × Unit × Unit × Int) × ((List Int × Int × Int × Int × Int × Bool × Int × List PD × Bool × Int × Int) × List Int))) => f6l4_s x.1.1 x.1.2.2.2 x.2.1.1 x.2.1.2.1 x.2.1.2.2.1 x.2.1.2.2.2.1 x.2.1.2.2.2.2.1 x.2.1.2.2.2.2.2.1 x.2.1.2.2.2.2.2.2.1 x.2.1.2.2.2.2.2.2.2.1 x.2.1.2.2.2.2.2.2.2.2.1 x.2.1.2.2.2.2.2.2.2.2.2.1 x.2.1.2.2.2.2.2.2.2.2.2.2 x.2.2
theorem f6_b (a1 : List PD) : bodyC Try.prog f6C f6F ((4, toldL f6l4p f6l4x f6l4) :: []) ((6, toldJ f6j6p f6j6x f6j6) :: ((9, toldJ f6j9p f6j9x f6j9) :: [])) { keep := [] } 6 (.sl 1) [] .bool [] a1 _ some = f6 a1 := by kernel_rfl
noncomputable def f6W (x : TyA (.sl 1) []) : Option (TyR .bool []) := f6 x
theorem f6_ok : EntOK Try.prog 6 (ent (.sl 1) [] .bool [] f6W) :=
  ent_ok f6F f6C_ok (hp := []) (fn := Try.f6) (by kernel_rfl) f6l4_t fun (x : List PD) => f6_b x
end Go.Proofs.Ythoooflagabpoaa
