import Derived.Test.YtjfnkoilnomofaaEvHoare
import Derived.Test.YtjfnkoilnomofaaProg
set_option linter.unusedVariables false
namespace Go.Proofs.Ytjfnkoilnomofaa
open Go Go.Ev
set_option maxRecDepth 100000
/-! f11: passkey/policy.Validate -/
noncomputable def f11l10p : SP := { n := 69, ix := [1, 3], p := (.cons (.ptr 0 0) (.int .i64)), hp := [(.cells (.cons (.int .i64) (.cons .bool (.cons (.int .i64) (.cons (.int .i64) (.cons .bool (.cons (.int .i64) (.cons .bool (.cons (.nums .u64) (.int .i64))))))))))] }
noncomputable def f11l10x : List (Ex × SP) := [(.ret, { n := 69, ix := [2], p := (.int .i64) }), ((.exit 1), { n := 69, ix := [], p := .nil })]
noncomputable def f11l10 : ((Unit × Int) × (Int × Bool × Int × Int × Bool × Int × Bool × List Int × Int)) → Option (((Unit × Int) × (Int × Bool × Int × Int × Bool × Int × Bool × List Int × Int)) ⊕ (Int ⊕ Unit)) := fun s => match s with
  | (((), a1), (a2, a3, a4, a5, a6, a7, a8, a9, a10)) =>
    cond (decide (a1 < (((a9.length) : Nat) : Int))) (
      Option.bind (getI a9 a1) fun y1 =>
      Option.bind (getI a9 (IntKind.i64.wrap (a1 - 1))) fun y2 =>
      cond (decide (y1 ≤ y2)) (
        some (.inr (.inl 7))) (
        some (.inl (((), (IntKind.i64.wrap (a1 + 1))), (a2, a3, a4, a5, a6, a7, a8, a9, a10))))) (
      some (.inr (.inr ())))
noncomputable def f11j9p : SP := { n := 69, ix := [1], p := (.ptr 0 0), hp := [(.cells (.cons (.int .i64) (.cons .bool (.cons (.int .i64) (.cons (.int .i64) (.cons .bool (.cons (.int .i64) (.cons .bool (.cons (.nums .u64) (.int .i64))))))))))] }
noncomputable def f11j9x : List (Ex × SP) := [(.ret, { n := 69, ix := [2], p := (.int .i64) })]
noncomputable def f11j9 : (Unit × (Int × Bool × Int × Int × Bool × Int × Bool × List Int × Int)) → Option Int := fun s => match s with
  | ((), (a1, a2, a3, a4, a5, a6, a7, a8, a9)) =>
    Option.bind (loopFix f11l10 (((), 1), (a1, a2, a3, a4, a5, a6, a7, a8, a9))) fun y1 =>
    match y1 with
    | (.inl y2) =>
      some y2
    | (.inr y3) =>
      some 0
noncomputable def f11 (a1 : Int) (a2 : Bool) (a3 : Int) (a4 : Int) (a5 : Bool) (a6 : Int) (a7 : Bool) (a8 : List Int) (a9 : Int) : Option Int :=
  cond (decide (a1 < 0)) (
    some 9) (
    cond (decide (a1 > 2)) (
      some 9) (
      cond (decide (a3 < 1)) (
        some 9) (
        cond (decide (a3 > 4)) (
          some 9) (
          cond (decide (a4 < 1)) (
            some 9) (
            cond (decide (a4 > 3)) (
              some 9) (
              cond (decide (a6 < 0)) (
                some 9) (
                cond (decide (a6 > 2)) (
                  some 9) (
                  cond (decide (a9 < 1)) (
                    some 9) (
                    cond (decide (a9 > 1099511627776)) (
                      some 9) (
                      cond (decide ((((a8.length) : Nat) : Int) > 16)) (
                        some 8) (
                        Option.bind (f11j9 ((), (a1, a2, a3, a4, a5, a6, a7, a8, a9))) fun y1 =>
                        some y1)))))))))))
noncomputable def f11C : Cal := tbl []
theorem f11C_ok : CalOK Try.prog f11C ∧ CalNt f11C := tbl_ok (by intro p hp; simp at hp)
noncomputable def f11F : FH := { join := [(9, { keep := [1] })], loops := [(10, { keep := [1, 3] }, { keep := [2] })] }
theorem f11l10_s (a1 : Int) (a2 : Int) (a3 : Bool) (a4 : Int) (a5 : Int) (a6 : Bool) (a7 : Int) (a8 : Bool) (a9 : List Int) (a10 : Int) : stepC Try.prog f11C f11F [] [] 0 ((loopsAt 10 (codeOf Try.f11)).headD .skip) f11l10p f11l10x { keep := [1, 3] } { keep := [2] } (((), a1), (a2, a3, a4, a5, a6, a7, a8, a9, a10)) _ some = f11l10 (((), a1), (a2, a3, a4, a5, a6, a7, a8, a9, a10)) := by kernel_rfl
theorem f11l10_t : ToldC Try.prog 0 (codeOf Try.f11) ((10, toldL f11l10p f11l10x f11l10) :: []) [] :=
  ToldC.loop f11F 0 (ToldC.nil 0) f11C_ok 10 ((loopsAt 10 (codeOf Try.f11)).headD .skip) (by kernel_rfl) (p := f11l10p) (px := f11l10x) (g := f11l10) (hi := { keep := [1, 3] }) (ho := { keep := [2] }) fun (x : ((Unit × Int) × (Int × Bool × Int × Int × Bool × Int × Bool × List Int × Int))) => f11l10_s x.1.2 x.2.1 x.2.2.1 x.2.2.2.1 x.2.2.2.2.1 x.2.2.2.2.2.1 x.2.2.2.2.2.2.1 x.2.2.2.2.2.2.2.1 x.2.2.2.2.2.2.2.2.1 x.2.2.2.2.2.2.2.2.2
theorem f11j9_s (a1 : Int) (a2 : Bool) (a3 : Int) (a4 : Int) (a5 : Bool) (a6 : Int) (a7 : Bool) (a8 : List Int) (a9 : Int) : joinC Try.prog f11C f11F ((10, toldL f11l10p f11l10x f11l10) :: []) [] 0 ((joinsAt 9 (codeOf Try.f11)).headD .skip) f11j9p f11j9x { keep := [2] } ((), (a1, a2, a3, a4, a5, a6, a7, a8, a9)) _ some = f11j9 ((), (a1, a2, a3, a4, a5, a6, a7, a8, a9)) := by kernel_rfl
theorem f11j9_t : ToldC Try.prog 0 (codeOf Try.f11) ((10, toldL f11l10p f11l10x f11l10) :: []) ((9, toldJ f11j9p f11j9x f11j9) :: []) :=
  ToldC.join f11F 0 f11l10_t f11C_ok 9 ((joinsAt 9 (codeOf Try.f11)).headD .skip) (by kernel_rfl) (p := f11j9p) (px := f11j9x) (g := f11j9) (ho := { keep := [2] }) fun (x : (Unit × (Int × Bool × Int × Int × Bool × Int × Bool × List Int × Int))) => f11j9_s x.2.1 x.2.2.1 x.2.2.2.1 x.2.2.2.2.1 x.2.2.2.2.2.1 x.2.2.2.2.2.2.1 x.2.2.2.2.2.2.2.1 x.2.2.2.2.2.2.2.2.1 x.2.2.2.2.2.2.2.2.2
theorem f11_b (a1 : Int) (a2 : Bool) (a3 : Int) (a4 : Int) (a5 : Bool) (a6 : Int) (a7 : Bool) (a8 : List Int) (a9 : Int) : bodyC Try.prog f11C f11F ((10, toldL f11l10p f11l10x f11l10) :: []) ((9, toldJ f11j9p f11j9x f11j9) :: []) { keep := [] } 11 (.agg (.cons (.int .i64) (.cons .bool (.cons (.int .i64) (.cons (.int .i64) (.cons .bool (.cons (.int .i64) (.cons .bool (.cons (.nums .u64) (.int .i64)))))))))) [] (.int .i64) [] (a1, a2, a3, a4, a5, a6, a7, a8, a9) _ some = f11 a1 a2 a3 a4 a5 a6 a7 a8 a9 := by kernel_rfl
noncomputable def f11W (x : TyA (.agg (.cons (.int .i64) (.cons .bool (.cons (.int .i64) (.cons (.int .i64) (.cons .bool (.cons (.int .i64) (.cons .bool (.cons (.nums .u64) (.int .i64)))))))))) []) : Option (TyR (.int .i64) []) := f11 x.1 x.2.1 x.2.2.1 x.2.2.2.1 x.2.2.2.2.1 x.2.2.2.2.2.1 x.2.2.2.2.2.2.1 x.2.2.2.2.2.2.2.1 x.2.2.2.2.2.2.2.2
theorem f11_ok : EntOK Try.prog 11 (ent (.agg (.cons (.int .i64) (.cons .bool (.cons (.int .i64) (.cons (.int .i64) (.cons .bool (.cons (.int .i64) (.cons .bool (.cons (.nums .u64) (.int .i64)))))))))) [] (.int .i64) [] f11W) :=
  ent_ok f11F f11C_ok (hp := []) (fn := Try.f11) (by kernel_rfl) f11j9_t fun (x : (Int × Bool × Int × Int × Bool × Int × Bool × List Int × Int)) => f11_b x.1 x.2.1 x.2.2.1 x.2.2.2.1 x.2.2.2.2.1 x.2.2.2.2.2.1 x.2.2.2.2.2.2.1 x.2.2.2.2.2.2.2.1 x.2.2.2.2.2.2.2.2

/-! f20: passkey/policy.gesture -/
noncomputable def f20 (a1 : Int) (a2 : Bool) (a3 : Int) (a4 : Int) (a5 : Bool) (a6 : Int) (a7 : Bool) (a8 : List Int) (a9 : Int) (a10 : Int) (a11 : Int) (a12 : Int) (a13 : Int) (a14 : Int) (a15 : List Int) (a16 : Int) (a17 : Int) : Option Int :=
  cond ((bitsI .and .i64 a11 1) == 0) (
    some 22) (
    cond (a1 == 2) (
      cond ((bitsI .and .i64 a11 4) == 0) (
        some 23) (
        some 0)) (
      some 0))
noncomputable def f20C : Cal := tbl []
theorem f20C_ok : CalOK Try.prog f20C ∧ CalNt f20C := tbl_ok (by intro p hp; simp at hp)
noncomputable def f20F : FH := {}
theorem f20_b (a1 : Int) (a2 : Bool) (a3 : Int) (a4 : Int) (a5 : Bool) (a6 : Int) (a7 : Bool) (a8 : List Int) (a9 : Int) (a10 : Int) (a11 : Int) (a12 : Int) (a13 : Int) (a14 : Int) (a15 : List Int) (a16 : Int) (a17 : Int) : bodyC Try.prog f20C f20F [] [] { keep := [] } 20 (.cons (.agg (.cons (.int .i64) (.cons .bool (.cons (.int .i64) (.cons (.int .i64) (.cons .bool (.cons (.int .i64) (.cons .bool (.cons (.nums .u64) (.int .i64)))))))))) (.agg (.cons (.int .u64) (.cons (.int .i64) (.cons (.int .i64) (.cons (.int .i64) (.cons (.int .u64) (.cons (.nums .u8) (.cons (.int .i64) (.int .u64)))))))))) [] (.int .i64) [] ((a1, a2, a3, a4, a5, a6, a7, a8, a9), (a10, a11, a12, a13, a14, a15, a16, a17)) _ some = f20 a1 a2 a3 a4 a5 a6 a7 a8 a9 a10 a11 a12 a13 a14 a15 a16 a17 := by kernel_rfl
noncomputable def f20W (x : TyA (.cons (.agg (.cons (.int .i64) (.cons .bool (.cons (.int .i64) (.cons (.int .i64) (.cons .bool (.cons (.int .i64) (.cons .bool (.cons (.nums .u64) (.int .i64)))))))))) (.agg (.cons (.int .u64) (.cons (.int .i64) (.cons (.int .i64) (.cons (.int .i64) (.cons (.int .u64) (.cons (.nums .u8) (.cons (.int .i64) (.int .u64)))))))))) []) : Option (TyR (.int .i64) []) := f20 x.1.1 x.1.2.1 x.1.2.2.1 x.1.2.2.2.1 x.1.2.2.2.2.1 x.1.2.2.2.2.2.1 x.1.2.2.2.2.2.2.1 x.1.2.2.2.2.2.2.2.1 x.1.2.2.2.2.2.2.2.2 x.2.1 x.2.2.1 x.2.2.2.1 x.2.2.2.2.1 x.2.2.2.2.2.1 x.2.2.2.2.2.2.1 x.2.2.2.2.2.2.2.1 x.2.2.2.2.2.2.2.2
theorem f20_ok : EntOK Try.prog 20 (ent (.cons (.agg (.cons (.int .i64) (.cons .bool (.cons (.int .i64) (.cons (.int .i64) (.cons .bool (.cons (.int .i64) (.cons .bool (.cons (.nums .u64) (.int .i64)))))))))) (.agg (.cons (.int .u64) (.cons (.int .i64) (.cons (.int .i64) (.cons (.int .i64) (.cons (.int .u64) (.cons (.nums .u8) (.cons (.int .i64) (.int .u64)))))))))) [] (.int .i64) [] f20W) :=
  ent_ok f20F f20C_ok (hp := []) (fn := Try.f20) (by kernel_rfl) (ToldC.nil 0) fun (x : ((Int × Bool × Int × Int × Bool × Int × Bool × List Int × Int) × (Int × Int × Int × Int × Int × List Int × Int × Int))) => f20_b x.1.1 x.1.2.1 x.1.2.2.1 x.1.2.2.2.1 x.1.2.2.2.2.1 x.1.2.2.2.2.2.1 x.1.2.2.2.2.2.2.1 x.1.2.2.2.2.2.2.2.1 x.1.2.2.2.2.2.2.2.2 x.2.1 x.2.2.1 x.2.2.2.1 x.2.2.2.2.1 x.2.2.2.2.2.1 x.2.2.2.2.2.2.1 x.2.2.2.2.2.2.2.1 x.2.2.2.2.2.2.2.2

/-! f25: slices.Index[[]uint64,uint64] -/
noncomputable def f25l2p : SP := { n := 19, ix := [0, 1, 7, 8], p := (.cons (.nums .u64) (.cons (.int .u64) (.cons (.int .i64) (.int .i64)))) }
noncomputable def f25l2x : List (Ex × SP) := [(.ret, { n := 19, ix := [4], p := (.int .i64) }), ((.exit 0), { n := 19, ix := [], p := .nil })]
noncomputable def f25l2 : (List Int × Int × Int × Int) → Option ((List Int × Int × Int × Int) ⊕ (Int ⊕ Unit)) := fun s => match s with
  | (a1, a2, a3, a4) =>
    cond (decide (a4 < a3)) (
      Option.bind (getI a1 a4) fun y1 =>
      cond (a2 == y1) (
        some (.inr (.inl a4))) (
        some (.inl (a1, a2, a3, (IntKind.i64.wrap (a4 + 1)))))) (
      some (.inr (.inr ())))
noncomputable def f25 (a1 : List Int) (a2 : Int) : Option Int :=
  Option.bind (loopFix f25l2 (a1, a2, (((a1.length) : Nat) : Int), 0)) fun y1 =>
  match y1 with
  | (.inl y2) =>
    some y2
  | (.inr y3) =>
    some (-1)
noncomputable def f25C : Cal := tbl []
theorem f25C_ok : CalOK Try.prog f25C ∧ CalNt f25C := tbl_ok (by intro p hp; simp at hp)
noncomputable def f25F : FH := { loops := [(2, { keep := [0, 1, 7, 8] }, { keep := [4] })] }
theorem f25l2_s (a1 : List Int) (a2 : Int) (a3 : Int) (a4 : Int) : stepC Try.prog f25C f25F [] [] 0 ((loopsAt 2 (codeOf Try.f25)).headD .skip) f25l2p f25l2x { keep := [0, 1, 7, 8] } { keep := [4] } (a1, a2, a3, a4) _ some = f25l2 (a1, a2, a3, a4) := by kernel_rfl
theorem f25l2_t : ToldC Try.prog 0 (codeOf Try.f25) ((2, toldL f25l2p f25l2x f25l2) :: []) [] :=
  ToldC.loop f25F 0 (ToldC.nil 0) f25C_ok 2 ((loopsAt 2 (codeOf Try.f25)).headD .skip) (by kernel_rfl) (p := f25l2p) (px := f25l2x) (g := f25l2) (hi := { keep := [0, 1, 7, 8] }) (ho := { keep := [4] }) fun (x : (List Int × Int × Int × Int)) => f25l2_s x.1 x.2.1 x.2.2.1 x.2.2.2
theorem f25_b (a1 : List Int) (a2 : Int) : bodyC Try.prog f25C f25F ((2, toldL f25l2p f25l2x f25l2) :: []) [] { keep := [] } 25 (.cons (.nums .u64) (.int .u64)) [] (.int .i64) [] (a1, a2) _ some = f25 a1 a2 := by kernel_rfl
noncomputable def f25W (x : TyA (.cons (.nums .u64) (.int .u64)) []) : Option (TyR (.int .i64) []) := f25 x.1 x.2
theorem f25_ok : EntOK Try.prog 25 (ent (.cons (.nums .u64) (.int .u64)) [] (.int .i64) [] f25W) :=
  ent_ok f25F f25C_ok (hp := []) (fn := Try.f25) (by kernel_rfl) f25l2_t fun (x : (List Int × Int)) => f25_b x.1 x.2

/-! f24: slices.Contains[[]uint64,uint64] -/
noncomputable def f24 (a1 : List Int) (a2 : Int) : Option Bool :=
  Option.bind (f25 a1 a2) fun y1 =>
  some (decide (y1 ≥ 0))
noncomputable def f24C : Cal := tbl [(25, (ent (.cons (.nums .u64) (.int .u64)) [] (.int .i64) [] f25W))]
theorem f24C_ok : CalOK Try.prog f24C ∧ CalNt f24C := tbl_ok (by
  intro p hp
  simp only [List.mem_cons, List.not_mem_nil, or_false] at hp
  rcases hp with rfl
  exact f25_ok)
noncomputable def f24F : FH := {}
theorem f24_b (a1 : List Int) (a2 : Int) : bodyC Try.prog f24C f24F [] [] { keep := [] } 24 (.cons (.nums .u64) (.int .u64)) [] .bool [] (a1, a2) _ some = f24 a1 a2 := by kernel_rfl
noncomputable def f24W (x : TyA (.cons (.nums .u64) (.int .u64)) []) : Option (TyR .bool []) := f24 x.1 x.2
theorem f24_ok : EntOK Try.prog 24 (ent (.cons (.nums .u64) (.int .u64)) [] .bool [] f24W) :=
  ent_ok f24F f24C_ok (hp := []) (fn := Try.f24) (by kernel_rfl) (ToldC.nil 0) fun (x : (List Int × Int)) => f24_b x.1 x.2

/-! f21: passkey/policy.rules -/
noncomputable def f21j6p : SP := { n := 26, ix := [], p := .nil }
noncomputable def f21j6x : List (Ex × SP) := [(.ret, { n := 26, ix := [6], p := (.int .i64) })]
noncomputable def f21j6 : Unit → Option Int := fun s => match s with
  | () =>
    some 0
noncomputable def f21 (a1 : Int) (a2 : Bool) (a3 : Int) (a4 : Int) (a5 : Bool) (a6 : Int) (a7 : Bool) (a8 : List Int) (a9 : Int) (a10 : Int) (a11 : Int) : Option Int :=
  cond (a11 == 3) (
    some 39) (
    cond (a11 == 4) (
      some 39) (
      Option.bind (f24 a8 a10) fun y1 =>
      cond y1 (
        some 40) (
        cond (a11 == 2) (
          cond (!a7) (
            some 40) (
            Option.bind (f21j6 ()) fun y2 =>
            some y2)) (
          Option.bind (f21j6 ()) fun y3 =>
          some y3))))
noncomputable def f21C : Cal := tbl [(24, (ent (.cons (.nums .u64) (.int .u64)) [] .bool [] f24W))]
theorem f21C_ok : CalOK Try.prog f21C ∧ CalNt f21C := tbl_ok (by
  intro p hp
  simp only [List.mem_cons, List.not_mem_nil, or_false] at hp
  rcases hp with rfl
  exact f24_ok)
noncomputable def f21F : FH := { join := [(6, { keep := [] })] }
theorem f21j6_s : joinC Try.prog f21C f21F [] [] 0 ((joinsAt 6 (codeOf Try.f21)).headD .skip) f21j6p f21j6x { keep := [6] } () _ some = f21j6 () := by kernel_rfl
theorem f21j6_t : ToldC Try.prog 0 (codeOf Try.f21) [] ((6, toldJ f21j6p f21j6x f21j6) :: []) :=
  ToldC.join f21F 0 (ToldC.nil 0) f21C_ok 6 ((joinsAt 6 (codeOf Try.f21)).headD .skip) (by kernel_rfl) (p := f21j6p) (px := f21j6x) (g := f21j6) (ho := { keep := [6] }) fun (x : Unit) => f21j6_s
theorem f21_b (a1 : Int) (a2 : Bool) (a3 : Int) (a4 : Int) (a5 : Bool) (a6 : Int) (a7 : Bool) (a8 : List Int) (a9 : Int) (a10 : Int) (a11 : Int) : bodyC Try.prog f21C f21F [] ((6, toldJ f21j6p f21j6x f21j6) :: []) { keep := [] } 21 (.cons (.agg (.cons (.int .i64) (.cons .bool (.cons (.int .i64) (.cons (.int .i64) (.cons .bool (.cons (.int .i64) (.cons .bool (.cons (.nums .u64) (.int .i64)))))))))) (.cons (.int .u64) (.int .i64))) [] (.int .i64) [] ((a1, a2, a3, a4, a5, a6, a7, a8, a9), a10, a11) _ some = f21 a1 a2 a3 a4 a5 a6 a7 a8 a9 a10 a11 := by kernel_rfl
noncomputable def f21W (x : TyA (.cons (.agg (.cons (.int .i64) (.cons .bool (.cons (.int .i64) (.cons (.int .i64) (.cons .bool (.cons (.int .i64) (.cons .bool (.cons (.nums .u64) (.int .i64)))))))))) (.cons (.int .u64) (.int .i64))) []) : Option (TyR (.int .i64) []) := f21 x.1.1 x.1.2.1 x.1.2.2.1 x.1.2.2.2.1 x.1.2.2.2.2.1 x.1.2.2.2.2.2.1 x.1.2.2.2.2.2.2.1 x.1.2.2.2.2.2.2.2.1 x.1.2.2.2.2.2.2.2.2 x.2.1 x.2.2
theorem f21_ok : EntOK Try.prog 21 (ent (.cons (.agg (.cons (.int .i64) (.cons .bool (.cons (.int .i64) (.cons (.int .i64) (.cons .bool (.cons (.int .i64) (.cons .bool (.cons (.nums .u64) (.int .i64)))))))))) (.cons (.int .u64) (.int .i64))) [] (.int .i64) [] f21W) :=
  ent_ok f21F f21C_ok (hp := []) (fn := Try.f21) (by kernel_rfl) f21j6_t fun (x : ((Int × Bool × Int × Int × Bool × Int × Bool × List Int × Int) × Int × Int)) => f21_b x.1.1 x.1.2.1 x.1.2.2.1 x.1.2.2.2.1 x.1.2.2.2.2.1 x.1.2.2.2.2.2.1 x.1.2.2.2.2.2.2.1 x.1.2.2.2.2.2.2.2.1 x.1.2.2.2.2.2.2.2.2 x.2.1 x.2.2

/-! f16: passkey/policy.SignsIn -/
noncomputable def f16 (a1 : Int) (a2 : Bool) (a3 : Int) (a4 : Int) (a5 : Bool) (a6 : Int) (a7 : Bool) (a8 : List Int) (a9 : Int) (a10 : Int) (a11 : Int) (a12 : Int) (a13 : Int) (a14 : Int) (a15 : List Int) (a16 : Int) (a17 : Int) (a18 : List Int) (a19 : Int) (a20 : Int) (a21 : Int) (a22 : Int) (a23 : Bool) (a24 : Int) (a25 : List PD) (a26 : Bool) (a27 : Int) (a28 : Int) (a29 : Int) : Option Int :=
  Option.bind (f20 a1 a2 a3 a4 a5 a6 a7 a8 a9 a10 a11 a12 a13 a14 a15 a16 a17) fun y1 =>
  cond (y1 != 0) (
    some y1) (
    cond (!(((bitsI .and .i64 a11 8) != 0) == a23)) (
      some 40) (
      cond (a21 == 0) (
        some 0) (
        Option.bind (f21 a1 a2 a3 a4 a5 a6 a7 a8 a9 a21 a29) fun y2 =>
        some y2)))
noncomputable def f16C : Cal := tbl [(20, (ent (.cons (.agg (.cons (.int .i64) (.cons .bool (.cons (.int .i64) (.cons (.int .i64) (.cons .bool (.cons (.int .i64) (.cons .bool (.cons (.nums .u64) (.int .i64)))))))))) (.agg (.cons (.int .u64) (.cons (.int .i64) (.cons (.int .i64) (.cons (.int .i64) (.cons (.int .u64) (.cons (.nums .u8) (.cons (.int .i64) (.int .u64)))))))))) [] (.int .i64) [] f20W)), (21, (ent (.cons (.agg (.cons (.int .i64) (.cons .bool (.cons (.int .i64) (.cons (.int .i64) (.cons .bool (.cons (.int .i64) (.cons .bool (.cons (.nums .u64) (.int .i64)))))))))) (.cons (.int .u64) (.int .i64))) [] (.int .i64) [] f21W))]
theorem f16C_ok : CalOK Try.prog f16C ∧ CalNt f16C := tbl_ok (by
  intro p hp
  simp only [List.mem_cons, List.not_mem_nil, or_false] at hp
  rcases hp with rfl | rfl
  · exact f20_ok
  · exact f21_ok)
noncomputable def f16F : FH := {}
theorem f16_b (a1 : Int) (a2 : Bool) (a3 : Int) (a4 : Int) (a5 : Bool) (a6 : Int) (a7 : Bool) (a8 : List Int) (a9 : Int) (a10 : Int) (a11 : Int) (a12 : Int) (a13 : Int) (a14 : Int) (a15 : List Int) (a16 : Int) (a17 : Int) (a18 : List Int) (a19 : Int) (a20 : Int) (a21 : Int) (a22 : Int) (a23 : Bool) (a24 : Int) (a25 : List PD) (a26 : Bool) (a27 : Int) (a28 : Int) (a29 : Int) : bodyC Try.prog f16C f16F [] [] { keep := [] } 16 (.cons (.agg (.cons (.int .i64) (.cons .bool (.cons (.int .i64) (.cons (.int .i64) (.cons .bool (.cons (.int .i64) (.cons .bool (.cons (.nums .u64) (.int .i64)))))))))) (.cons (.agg (.cons (.int .u64) (.cons (.int .i64) (.cons (.int .i64) (.cons (.int .i64) (.cons (.int .u64) (.cons (.nums .u8) (.cons (.int .i64) (.int .u64))))))))) (.cons (.agg (.cons (.nums .u8) (.cons (.int .i64) (.cons (.int .u64) (.cons (.int .u64) (.cons (.int .i64) (.cons .bool (.cons (.int .u64) (.cons (.sl 2) (.cons .bool (.cons (.int .i64) (.int .i64)))))))))))) (.int .i64)))) [] (.int .i64) [] ((a1, a2, a3, a4, a5, a6, a7, a8, a9), (a10, a11, a12, a13, a14, a15, a16, a17), (a18, a19, a20, a21, a22, a23, a24, a25, a26, a27, a28), a29) _ some = f16 a1 a2 a3 a4 a5 a6 a7 a8 a9 a10 a11 a12 a13 a14 a15 a16 a17 a18 a19 a20 a21 a22 a23 a24 a25 a26 a27 a28 a29 := by kernel_rfl
noncomputable def f16W (x : TyA (.cons (.agg (.cons (.int .i64) (.cons .bool (.cons (.int .i64) (.cons (.int .i64) (.cons .bool (.cons (.int .i64) (.cons .bool (.cons (.nums .u64) (.int .i64)))))))))) (.cons (.agg (.cons (.int .u64) (.cons (.int .i64) (.cons (.int .i64) (.cons (.int .i64) (.cons (.int .u64) (.cons (.nums .u8) (.cons (.int .i64) (.int .u64))))))))) (.cons (.agg (.cons (.nums .u8) (.cons (.int .i64) (.cons (.int .u64) (.cons (.int .u64) (.cons (.int .i64) (.cons .bool (.cons (.int .u64) (.cons (.sl 2) (.cons .bool (.cons (.int .i64) (.int .i64)))))))))))) (.int .i64)))) []) : Option (TyR (.int .i64) []) := f16 x.1.1 x.1.2.1 x.1.2.2.1 x.1.2.2.2.1 x.1.2.2.2.2.1 x.1.2.2.2.2.2.1 x.1.2.2.2.2.2.2.1 x.1.2.2.2.2.2.2.2.1 x.1.2.2.2.2.2.2.2.2 x.2.1.1 x.2.1.2.1 x.2.1.2.2.1 x.2.1.2.2.2.1 x.2.1.2.2.2.2.1 x.2.1.2.2.2.2.2.1 x.2.1.2.2.2.2.2.2.1 x.2.1.2.2.2.2.2.2.2 x.2.2.1.1 x.2.2.1.2.1 x.2.2.1.2.2.1 x.2.2.1.2.2.2.1 x.2.2.1.2.2.2.2.1 x.2.2.1.2.2.2.2.2.1 x.2.2.1.2.2.2.2.2.2.1 x.2.2.1.2.2.2.2.2.2.2.1 x.2.2.1.2.2.2.2.2.2.2.2.1 x.2.2.1.2.2.2.2.2.2.2.2.2.1 x.2.2.1.2.2.2.2.2.2.2.2.2.2 x.2.2.2
theorem f16_ok : EntOK Try.prog 16 (ent (.cons (.agg (.cons (.int .i64) (.cons .bool (.cons (.int .i64) (.cons (.int .i64) (.cons .bool (.cons (.int .i64) (.cons .bool (.cons (.nums .u64) (.int .i64)))))))))) (.cons (.agg (.cons (.int .u64) (.cons (.int .i64) (.cons (.int .i64) (.cons (.int .i64) (.cons (.int .u64) (.cons (.nums .u8) (.cons (.int .i64) (.int .u64))))))))) (.cons (.agg (.cons (.nums .u8) (.cons (.int .i64) (.cons (.int .u64) (.cons (.int .u64) (.cons (.int .i64) (.cons .bool (.cons (.int .u64) (.cons (.sl 2) (.cons .bool (.cons (.int .i64) (.int .i64)))))))))))) (.int .i64)))) [] (.int .i64) [] f16W) :=
  ent_ok f16F f16C_ok (hp := []) (fn := Try.f16) (by kernel_rfl) (ToldC.nil 0) fun (x : ((Int × Bool × Int × Int × Bool × Int × Bool × List Int × Int) × (Int × Int × Int × Int × Int × List Int × Int × Int) × (List Int × Int × Int × Int × Int × Bool × Int × List PD × Bool × Int × Int) × Int)) => f16_b x.1.1 x.1.2.1 x.1.2.2.1 x.1.2.2.2.1 x.1.2.2.2.2.1 x.1.2.2.2.2.2.1 x.1.2.2.2.2.2.2.1 x.1.2.2.2.2.2.2.2.1 x.1.2.2.2.2.2.2.2.2 x.2.1.1 x.2.1.2.1 x.2.1.2.2.1 x.2.1.2.2.2.1 x.2.1.2.2.2.2.1 x.2.1.2.2.2.2.2.1 x.2.1.2.2.2.2.2.2.1 x.2.1.2.2.2.2.2.2.2 x.2.2.1.1 x.2.2.1.2.1 x.2.2.1.2.2.1 x.2.2.1.2.2.2.1 x.2.2.1.2.2.2.2.1 x.2.2.1.2.2.2.2.2.1 x.2.2.1.2.2.2.2.2.2.1 x.2.2.1.2.2.2.2.2.2.2.1 x.2.2.1.2.2.2.2.2.2.2.2.1 x.2.2.1.2.2.2.2.2.2.2.2.2.1 x.2.2.1.2.2.2.2.2.2.2.2.2.2 x.2.2.2

/-! f14: passkey/policy.Registers -/
noncomputable def f14j6p : SP := { n := 50, ix := [3, 4, 5, 6], p := (.cons (.int .i64) (.cons (.ptr 0 0) (.cons (.ptr 1 0) (.ptr 2 0)))), hp := [(.cells (.cons (.int .i64) (.cons .bool (.cons (.int .i64) (.cons (.int .i64) (.cons .bool (.cons (.int .i64) (.cons .bool (.cons (.nums .u64) (.int .i64)))))))))), (.cells (.cons (.int .u64) (.cons (.int .i64) (.cons (.int .i64) (.cons (.int .i64) (.cons (.int .u64) (.cons (.nums .u8) (.cons (.int .i64) (.int .u64))))))))), (.cells (.cons (.int .i64) (.cons (.int .i64) (.int .i64))))] }
noncomputable def f14j6x : List (Ex × SP) := [(.ret, { n := 50, ix := [8], p := (.int .i64) })]
noncomputable def f14j6 : ((Int × Unit × Unit × Unit) × ((Int × Bool × Int × Int × Bool × Int × Bool × List Int × Int) × (Int × Int × Int × Int × Int × List Int × Int × Int) × (Int × Int × Int))) → Option Int := fun s => match s with
  | ((a1, (), (), ()), ((a2, a3, a4, a5, a6, a7, a8, a9, a10), (a11, a12, a13, a14, a15, a16, a17, a18), (a19, a20, a21))) =>
    cond (a19 != 2) (
      some 0) (
      cond (a1 == 0) (
        some 38) (
        Option.bind (f21 a2 a3 a4 a5 a6 a7 a8 a9 a10 a15 a1) fun y1 =>
        some y1))
noncomputable def f14 (a1 : Int) (a2 : Bool) (a3 : Int) (a4 : Int) (a5 : Bool) (a6 : Int) (a7 : Bool) (a8 : List Int) (a9 : Int) (a10 : Int) (a11 : Int) (a12 : Int) (a13 : Int) (a14 : Int) (a15 : List Int) (a16 : Int) (a17 : Int) (a18 : Int) (a19 : Int) (a20 : Int) (a21 : Int) : Option Int :=
  Option.bind (f20 a1 a2 a3 a4 a5 a6 a7 a8 a9 a10 a11 a12 a13 a14 a15 a16 a17) fun y1 =>
  cond (y1 != 0) (
    some y1) (
    cond (decide (a16 < a3)) (
      some 40) (
      cond ((bitsI .and .i64 a11 8) != 0) (
        cond (!a5) (
          some 40) (
          cond (a18 != a6) (
            some 40) (
            Option.bind (f14j6 ((a21, (), (), ()), ((a1, a2, a3, a4, a5, a6, a7, a8, a9), (a10, a11, a12, a13, a14, a15, a16, a17), (a18, a19, a20)))) fun y2 =>
            some y2))) (
        cond (a18 != a6) (
          some 40) (
          Option.bind (f14j6 ((a21, (), (), ()), ((a1, a2, a3, a4, a5, a6, a7, a8, a9), (a10, a11, a12, a13, a14, a15, a16, a17), (a18, a19, a20)))) fun y3 =>
          some y3))))
noncomputable def f14C : Cal := tbl [(20, (ent (.cons (.agg (.cons (.int .i64) (.cons .bool (.cons (.int .i64) (.cons (.int .i64) (.cons .bool (.cons (.int .i64) (.cons .bool (.cons (.nums .u64) (.int .i64)))))))))) (.agg (.cons (.int .u64) (.cons (.int .i64) (.cons (.int .i64) (.cons (.int .i64) (.cons (.int .u64) (.cons (.nums .u8) (.cons (.int .i64) (.int .u64)))))))))) [] (.int .i64) [] f20W)), (21, (ent (.cons (.agg (.cons (.int .i64) (.cons .bool (.cons (.int .i64) (.cons (.int .i64) (.cons .bool (.cons (.int .i64) (.cons .bool (.cons (.nums .u64) (.int .i64)))))))))) (.cons (.int .u64) (.int .i64))) [] (.int .i64) [] f21W))]
theorem f14C_ok : CalOK Try.prog f14C ∧ CalNt f14C := tbl_ok (by
  intro p hp
  simp only [List.mem_cons, List.not_mem_nil, or_false] at hp
  rcases hp with rfl | rfl
  · exact f20_ok
  · exact f21_ok)
noncomputable def f14F : FH := { join := [(6, { keep := [3, 4, 5, 6] })] }
theorem f14j6_s (a1 : Int) (a2 : Int) (a3 : Bool) (a4 : Int) (a5 : Int) (a6 : Bool) (a7 : Int) (a8 : Bool) (a9 : List Int) (a10 : Int) (a11 : Int) (a12 : Int) (a13 : Int) (a14 : Int) (a15 : Int) (a16 : List Int) (a17 : Int) (a18 : Int) (a19 : Int) (a20 : Int) (a21 : Int) : joinC Try.prog f14C f14F [] [] 0 ((joinsAt 6 (codeOf Try.f14)).headD .skip) f14j6p f14j6x { keep := [8] } ((a1, (), (), ()), ((a2, a3, a4, a5, a6, a7, a8, a9, a10), (a11, a12, a13, a14, a15, a16, a17, a18), (a19, a20, a21))) _ some = f14j6 ((a1, (), (), ()), ((a2, a3, a4, a5, a6, a7, a8, a9, a10), (a11, a12, a13, a14, a15, a16, a17, a18), (a19, a20, a21))) := by kernel_rfl
theorem f14j6_t : ToldC Try.prog 0 (codeOf Try.f14) [] ((6, toldJ f14j6p f14j6x f14j6) :: []) :=
  ToldC.join f14F 0 (ToldC.nil 0) f14C_ok 6 ((joinsAt 6 (codeOf Try.f14)).headD .skip) (by kernel_rfl) (p := f14j6p) (px := f14j6x) (g := f14j6) (ho := { keep := [8] }) fun (x : ((Int × Unit × Unit × Unit) × ((Int × Bool × Int × Int × Bool × Int × Bool × List Int × Int) × (Int × Int × Int × Int × Int × List Int × Int × Int) × (Int × Int × Int)))) => f14j6_s x.1.1 x.2.1.1 x.2.1.2.1 x.2.1.2.2.1 x.2.1.2.2.2.1 x.2.1.2.2.2.2.1 x.2.1.2.2.2.2.2.1 x.2.1.2.2.2.2.2.2.1 x.2.1.2.2.2.2.2.2.2.1 x.2.1.2.2.2.2.2.2.2.2 x.2.2.1.1 x.2.2.1.2.1 x.2.2.1.2.2.1 x.2.2.1.2.2.2.1 x.2.2.1.2.2.2.2.1 x.2.2.1.2.2.2.2.2.1 x.2.2.1.2.2.2.2.2.2.1 x.2.2.1.2.2.2.2.2.2.2 x.2.2.2.1 x.2.2.2.2.1 x.2.2.2.2.2
theorem f14_b (a1 : Int) (a2 : Bool) (a3 : Int) (a4 : Int) (a5 : Bool) (a6 : Int) (a7 : Bool) (a8 : List Int) (a9 : Int) (a10 : Int) (a11 : Int) (a12 : Int) (a13 : Int) (a14 : Int) (a15 : List Int) (a16 : Int) (a17 : Int) (a18 : Int) (a19 : Int) (a20 : Int) (a21 : Int) : bodyC Try.prog f14C f14F [] ((6, toldJ f14j6p f14j6x f14j6) :: []) { keep := [] } 14 (.cons (.agg (.cons (.int .i64) (.cons .bool (.cons (.int .i64) (.cons (.int .i64) (.cons .bool (.cons (.int .i64) (.cons .bool (.cons (.nums .u64) (.int .i64)))))))))) (.cons (.agg (.cons (.int .u64) (.cons (.int .i64) (.cons (.int .i64) (.cons (.int .i64) (.cons (.int .u64) (.cons (.nums .u8) (.cons (.int .i64) (.int .u64))))))))) (.cons (.agg (.cons (.int .i64) (.cons (.int .i64) (.int .i64)))) (.int .i64)))) [] (.int .i64) [] ((a1, a2, a3, a4, a5, a6, a7, a8, a9), (a10, a11, a12, a13, a14, a15, a16, a17), (a18, a19, a20), a21) _ some = f14 a1 a2 a3 a4 a5 a6 a7 a8 a9 a10 a11 a12 a13 a14 a15 a16 a17 a18 a19 a20 a21 := by kernel_rfl
noncomputable def f14W (x : TyA (.cons (.agg (.cons (.int .i64) (.cons .bool (.cons (.int .i64) (.cons (.int .i64) (.cons .bool (.cons (.int .i64) (.cons .bool (.cons (.nums .u64) (.int .i64)))))))))) (.cons (.agg (.cons (.int .u64) (.cons (.int .i64) (.cons (.int .i64) (.cons (.int .i64) (.cons (.int .u64) (.cons (.nums .u8) (.cons (.int .i64) (.int .u64))))))))) (.cons (.agg (.cons (.int .i64) (.cons (.int .i64) (.int .i64)))) (.int .i64)))) []) : Option (TyR (.int .i64) []) := f14 x.1.1 x.1.2.1 x.1.2.2.1 x.1.2.2.2.1 x.1.2.2.2.2.1 x.1.2.2.2.2.2.1 x.1.2.2.2.2.2.2.1 x.1.2.2.2.2.2.2.2.1 x.1.2.2.2.2.2.2.2.2 x.2.1.1 x.2.1.2.1 x.2.1.2.2.1 x.2.1.2.2.2.1 x.2.1.2.2.2.2.1 x.2.1.2.2.2.2.2.1 x.2.1.2.2.2.2.2.2.1 x.2.1.2.2.2.2.2.2.2 x.2.2.1.1 x.2.2.1.2.1 x.2.2.1.2.2 x.2.2.2
theorem f14_ok : EntOK Try.prog 14 (ent (.cons (.agg (.cons (.int .i64) (.cons .bool (.cons (.int .i64) (.cons (.int .i64) (.cons .bool (.cons (.int .i64) (.cons .bool (.cons (.nums .u64) (.int .i64)))))))))) (.cons (.agg (.cons (.int .u64) (.cons (.int .i64) (.cons (.int .i64) (.cons (.int .i64) (.cons (.int .u64) (.cons (.nums .u8) (.cons (.int .i64) (.int .u64))))))))) (.cons (.agg (.cons (.int .i64) (.cons (.int .i64) (.int .i64)))) (.int .i64)))) [] (.int .i64) [] f14W) :=
  ent_ok f14F f14C_ok (hp := []) (fn := Try.f14) (by kernel_rfl) f14j6_t fun (x : ((Int × Bool × Int × Int × Bool × Int × Bool × List Int × Int) × (Int × Int × Int × Int × Int × List Int × Int × Int) × (Int × Int × Int) × Int)) => f14_b x.1.1 x.1.2.1 x.1.2.2.1 x.1.2.2.2.1 x.1.2.2.2.2.1 x.1.2.2.2.2.2.1 x.1.2.2.2.2.2.2.1 x.1.2.2.2.2.2.2.2.1 x.1.2.2.2.2.2.2.2.2 x.2.1.1 x.2.1.2.1 x.2.1.2.2.1 x.2.1.2.2.2.1 x.2.1.2.2.2.2.1 x.2.1.2.2.2.2.2.1 x.2.1.2.2.2.2.2.2.1 x.2.1.2.2.2.2.2.2.2 x.2.2.1.1 x.2.2.1.2.1 x.2.2.1.2.2 x.2.2.2

/-! f7: passkey/passkeylaw31.awake -/
noncomputable def f7 : Option Bool :=
  Option.bind (f11 2 false 1 1 false 0 false [] 1) fun y1 =>
  cond (y1 == 0) (
    Option.bind (f11 0 false 0 0 false 0 false [] 0) fun y2 =>
    cond (y2 == 9) (
      Option.bind (f16 2 false 1 1 false 0 false [] 1 0 1 0 0 0 [] 0 0 [] 0 0 0 0 false 0 [] false 0 0 0) fun y3 =>
      cond (y3 == 23) (
        Option.bind (f16 2 false 1 1 false 0 false [] 1 0 5 0 0 0 [] 0 0 [] 0 0 0 0 false 0 [] false 0 0 0) fun y4 =>
        cond (y4 == 0) (
          Option.bind (f14 2 false 1 1 false 0 false [] 1 0 0 0 0 0 [] 0 0 0 0 0 0) fun y5 =>
          some (y5 == 22)) (
          some false)) (
        some false)) (
      some false)) (
    some false)
noncomputable def f7C : Cal := tbl [(11, (ent (.agg (.cons (.int .i64) (.cons .bool (.cons (.int .i64) (.cons (.int .i64) (.cons .bool (.cons (.int .i64) (.cons .bool (.cons (.nums .u64) (.int .i64)))))))))) [] (.int .i64) [] f11W)), (16, (ent (.cons (.agg (.cons (.int .i64) (.cons .bool (.cons (.int .i64) (.cons (.int .i64) (.cons .bool (.cons (.int .i64) (.cons .bool (.cons (.nums .u64) (.int .i64)))))))))) (.cons (.agg (.cons (.int .u64) (.cons (.int .i64) (.cons (.int .i64) (.cons (.int .i64) (.cons (.int .u64) (.cons (.nums .u8) (.cons (.int .i64) (.int .u64))))))))) (.cons (.agg (.cons (.nums .u8) (.cons (.int .i64) (.cons (.int .u64) (.cons (.int .u64) (.cons (.int .i64) (.cons .bool (.cons (.int .u64) (.cons (.sl 2) (.cons .bool (.cons (.int .i64) (.int .i64)))))))))))) (.int .i64)))) [] (.int .i64) [] f16W)), (14, (ent (.cons (.agg (.cons (.int .i64) (.cons .bool (.cons (.int .i64) (.cons (.int .i64) (.cons .bool (.cons (.int .i64) (.cons .bool (.cons (.nums .u64) (.int .i64)))))))))) (.cons (.agg (.cons (.int .u64) (.cons (.int .i64) (.cons (.int .i64) (.cons (.int .i64) (.cons (.int .u64) (.cons (.nums .u8) (.cons (.int .i64) (.int .u64))))))))) (.cons (.agg (.cons (.int .i64) (.cons (.int .i64) (.int .i64)))) (.int .i64)))) [] (.int .i64) [] f14W))]
theorem f7C_ok : CalOK Try.prog f7C ∧ CalNt f7C := tbl_ok (by
  intro p hp
  simp only [List.mem_cons, List.not_mem_nil, or_false] at hp
  rcases hp with rfl | rfl | rfl
  · exact f11_ok
  · exact f16_ok
  · exact f14_ok)
noncomputable def f7F : FH := {}
theorem f7_b : bodyC Try.prog f7C f7F [] [] { keep := [] } 7 .nil [] .bool [] () _ some = f7 := by kernel_rfl
noncomputable def f7W (x : TyA .nil []) : Option (TyR .bool []) := f7
theorem f7_ok : EntOK Try.prog 7 (ent .nil [] .bool [] f7W) :=
  ent_ok f7F f7C_ok (hp := []) (fn := Try.f7) (by kernel_rfl) (ToldC.nil 0) fun (x : Unit) => f7_b

/-! f8: passkey/passkeycast.New -/
noncomputable def f8 (a1 : List Int) : Option (Unit × (List Int × Int)) :=
  some ((), (a1, 0))
noncomputable def f8C : Cal := tbl []
theorem f8C_ok : CalOK Try.prog f8C ∧ CalNt f8C := tbl_ok (by intro p hp; simp at hp)
noncomputable def f8F : FH := {}
theorem f8_b (a1 : List Int) : bodyC Try.prog f8C f8F [] [] { keep := [] } 8 (.nums .i64) [] (.ptr 0 0) [(.cells (.cons (.nums .i64) (.int .i64)))] a1 _ some = f8 a1 := by kernel_rfl
noncomputable def f8W (x : TyA (.nums .i64) []) : Option (TyR (.ptr 0 0) [(.cells (.cons (.nums .i64) (.int .i64)))]) := f8 x
theorem f8_ok : EntOK Try.prog 8 (ent (.nums .i64) [] (.ptr 0 0) [(.cells (.cons (.nums .i64) (.int .i64)))] f8W) :=
  ent_ok f8F f8C_ok (hp := []) (fn := Try.f8) (by kernel_rfl) (ToldC.nil 0) fun (x : List Int) => f8_b x

/-! f18: passkey/passkeycast.Mod -/
noncomputable def f18 (a1 : Int) (a2 : Int) : Option Int :=
  cond ((IntKind.u64.wrap a2) != 0) (
    some (IntKind.i64.wrap (Int.tmod (IntKind.u64.wrap a1) (IntKind.u64.wrap a2)))) none
noncomputable def f18C : Cal := tbl []
theorem f18C_ok : CalOK Try.prog f18C ∧ CalNt f18C := tbl_ok (by intro p hp; simp at hp)
noncomputable def f18F : FH := {}
theorem f18_b (a1 : Int) (a2 : Int) : bodyC Try.prog f18C f18F [] [] { keep := [] } 18 (.cons (.int .i64) (.int .i64)) [] (.int .i64) [] (a1, a2) _ some = f18 a1 a2 := by kernel_rfl
noncomputable def f18W (x : TyA (.cons (.int .i64) (.int .i64)) []) : Option (TyR (.int .i64) []) := f18 x.1 x.2
theorem f18_ok : EntOK Try.prog 18 (ent (.cons (.int .i64) (.int .i64)) [] (.int .i64) [] f18W) :=
  ent_ok f18F f18C_ok (hp := []) (fn := Try.f18) (by kernel_rfl) (ToldC.nil 0) fun (x : (Int × Int)) => f18_b x.1 x.2

/-! f10: (*passkey/passkeycast.Deck).Next -/
noncomputable def f10 (a1 : Int) (a2 : List Int) (a3 : Int) : Option (Int × (List Int × Int)) :=
  cond (decide (a3 ≥ (((a2.length) : Nat) : Int))) (
    some (0, (a2, a3))) (
    Option.bind (getI a2 (IntKind.i64.wrap ((IntKind.i64.wrap (a3 + 1)) - 1))) fun y1 =>
    Option.bind (f18 y1 a1) fun y2 =>
    some (y2, (a2, (IntKind.i64.wrap (a3 + 1)))))
noncomputable def f10C : Cal := tbl [(18, (ent (.cons (.int .i64) (.int .i64)) [] (.int .i64) [] f18W))]
theorem f10C_ok : CalOK Try.prog f10C ∧ CalNt f10C := tbl_ok (by
  intro p hp
  simp only [List.mem_cons, List.not_mem_nil, or_false] at hp
  rcases hp with rfl
  exact f18_ok)
noncomputable def f10F : FH := {}
theorem f10_b (a1 : Int) (a2 : List Int) (a3 : Int) : bodyC Try.prog f10C f10F [] [] { keep := [] } 10 (.cons (.ptr 0 0) (.int .i64)) [(.cells (.cons (.nums .i64) (.int .i64)))] (.int .i64) [(.cells (.cons (.nums .i64) (.int .i64)))] (((), a1), (a2, a3)) _ some = f10 a1 a2 a3 := by kernel_rfl
noncomputable def f10W (x : TyA (.cons (.ptr 0 0) (.int .i64)) [(.cells (.cons (.nums .i64) (.int .i64)))]) : Option (TyR (.int .i64) [(.cells (.cons (.nums .i64) (.int .i64)))]) := f10 x.1.2 x.2.1 x.2.2
theorem f10_ok : EntOK Try.prog 10 (ent (.cons (.ptr 0 0) (.int .i64)) [(.cells (.cons (.nums .i64) (.int .i64)))] (.int .i64) [(.cells (.cons (.nums .i64) (.int .i64)))] f10W) :=
  ent_ok f10F f10C_ok (hp := [(.cells (.cons (.nums .i64) (.int .i64)))]) (fn := Try.f10) (by kernel_rfl) (ToldC.nil 1) fun (x : ((Unit × Int) × (List Int × Int))) => f10_b x.1.2 x.2.1 x.2.2

/-! f9: (*passkey/passkeycast.Deck).Policy -/
noncomputable def f9 (a1 : List Int) (a2 : Int) : Option ((Int × Bool × Int × Int × Bool × Int × Bool × List Int × Int) × (List Int × Int)) :=
  Option.bind (f10 3 a1 a2) fun y1 =>
  Option.bind (f10 2 y1.2.1 y1.2.2) fun y2 =>
  Option.bind (f10 2 y2.2.1 y2.2.2) fun y3 =>
  Option.bind (f10 3 y3.2.1 y3.2.2) fun y4 =>
  Option.bind (f10 2 y4.2.1 y4.2.2) fun y5 =>
  Option.bind (f10 3 y5.2.1 y5.2.2) fun y6 =>
  Option.bind (f10 2 y6.2.1 y6.2.2) fun y7 =>
  Option.bind (f10 3 y7.2.1 y7.2.2) fun y8 =>
  cond (inRange y8.1 3) (
    Option.bind ([50, 5, 500][(Int.toNat y8.1)]?) fun y9 =>
    Option.bind (f10 4 y8.2.1 y8.2.2) fun y10 =>
    cond (y10.1 == 3) (
      Option.bind (f10 2 y10.2.1 y10.2.2) fun y11 =>
      cond (okBounds 0 (IntKind.i64.wrap (1 + y11.1)) 2) (
        some ((y1.1, (y2.1 == 1), (IntKind.i64.wrap (1 + y3.1)), (IntKind.i64.wrap (1 + y4.1)), (y5.1 == 1), y6.1, (y7.1 == 1), (cut [3, 7] 0 (IntKind.i64.wrap (1 + y11.1))), y9), (y11.2.1, y11.2.2))) none) (
      some ((y1.1, (y2.1 == 1), (IntKind.i64.wrap (1 + y3.1)), (IntKind.i64.wrap (1 + y4.1)), (y5.1 == 1), y6.1, (y7.1 == 1), [], y9), (y10.2.1, y10.2.2)))) none
noncomputable def f9C : Cal := tbl [(10, (ent (.cons (.ptr 0 0) (.int .i64)) [(.cells (.cons (.nums .i64) (.int .i64)))] (.int .i64) [(.cells (.cons (.nums .i64) (.int .i64)))] f10W))]
theorem f9C_ok : CalOK Try.prog f9C ∧ CalNt f9C := tbl_ok (by
  intro p hp
  simp only [List.mem_cons, List.not_mem_nil, or_false] at hp
  rcases hp with rfl
  exact f10_ok)
noncomputable def f9F : FH := { ops := [(3, [(4, .take)])] }
theorem f9_b (a1 : List Int) (a2 : Int) : bodyC Try.prog f9C f9F [] [] { keep := [], fz := [0] } 9 (.ptr 0 0) [(.cells (.cons (.nums .i64) (.int .i64)))] (.agg (.cons (.int .i64) (.cons .bool (.cons (.int .i64) (.cons (.int .i64) (.cons .bool (.cons (.int .i64) (.cons .bool (.cons (.nums .u64) (.int .i64)))))))))) [(.cells (.cons (.nums .i64) (.int .i64)))] ((), (a1, a2)) _ some = f9 a1 a2 := by kernel_rfl
noncomputable def f9W (x : TyA (.ptr 0 0) [(.cells (.cons (.nums .i64) (.int .i64)))]) : Option (TyR (.agg (.cons (.int .i64) (.cons .bool (.cons (.int .i64) (.cons (.int .i64) (.cons .bool (.cons (.int .i64) (.cons .bool (.cons (.nums .u64) (.int .i64)))))))))) [(.cells (.cons (.nums .i64) (.int .i64)))]) := f9 x.2.1 x.2.2
theorem f9_ok : EntOK Try.prog 9 (ent (.ptr 0 0) [(.cells (.cons (.nums .i64) (.int .i64)))] (.agg (.cons (.int .i64) (.cons .bool (.cons (.int .i64) (.cons (.int .i64) (.cons .bool (.cons (.int .i64) (.cons .bool (.cons (.nums .u64) (.int .i64)))))))))) [(.cells (.cons (.nums .i64) (.int .i64)))] f9W) :=
  ent_ok f9F f9C_ok (hp := [(.cells (.cons (.nums .i64) (.int .i64)))]) (fn := Try.f9) (by kernel_rfl) (ToldC.nil 1) fun (x : (Unit × (List Int × Int))) => f9_b x.2.1 x.2.2

/-! f19: passkey/passkeyref29.within -/
noncomputable def f19 (a1 : Int) (a2 : Int) (a3 : Int) : Option Bool :=
  cond (decide (a1 ≥ a2)) (
    some (decide (a1 ≤ a3))) (
    some false)
noncomputable def f19C : Cal := tbl []
theorem f19C_ok : CalOK Try.prog f19C ∧ CalNt f19C := tbl_ok (by intro p hp; simp at hp)
noncomputable def f19F : FH := {}
theorem f19_b (a1 : Int) (a2 : Int) (a3 : Int) : bodyC Try.prog f19C f19F [] [] { keep := [] } 19 (.cons (.int .i64) (.cons (.int .i64) (.int .i64))) [] .bool [] (a1, a2, a3) _ some = f19 a1 a2 a3 := by kernel_rfl
noncomputable def f19W (x : TyA (.cons (.int .i64) (.cons (.int .i64) (.int .i64))) []) : Option (TyR .bool []) := f19 x.1 x.2.1 x.2.2
theorem f19_ok : EntOK Try.prog 19 (ent (.cons (.int .i64) (.cons (.int .i64) (.int .i64))) [] .bool [] f19W) :=
  ent_ok f19F f19C_ok (hp := []) (fn := Try.f19) (by kernel_rfl) (ToldC.nil 0) fun (x : (Int × Int × Int)) => f19_b x.1 x.2.1 x.2.2

/-! f12: passkey/passkeyref29.ValidatePolicy -/
noncomputable def f12l6p : SP := { n := 55, ix := [1, 3], p := (.cons (.ptr 0 0) (.int .i64)), hp := [(.cells (.cons (.int .i64) (.cons .bool (.cons (.int .i64) (.cons (.int .i64) (.cons .bool (.cons (.int .i64) (.cons .bool (.cons (.nums .u64) (.int .i64))))))))))] }
noncomputable def f12l6x : List (Ex × SP) := [(.ret, { n := 55, ix := [2], p := (.int .i64) }), ((.exit 0), { n := 55, ix := [], p := .nil })]
noncomputable def f12l6 : ((Unit × Int) × (Int × Bool × Int × Int × Bool × Int × Bool × List Int × Int)) → Option (((Unit × Int) × (Int × Bool × Int × Int × Bool × Int × Bool × List Int × Int)) ⊕ (Int ⊕ Unit)) := fun s => match s with
  | (((), a1), (a2, a3, a4, a5, a6, a7, a8, a9, a10)) =>
    cond (decide (a1 < (((a9.length) : Nat) : Int))) (
      Option.bind (getI a9 a1) fun y1 =>
      Option.bind (getI a9 (IntKind.i64.wrap (a1 - 1))) fun y2 =>
      cond (decide (y1 ≤ y2)) (
        some (.inr (.inl 7))) (
        some (.inl (((), (IntKind.i64.wrap (a1 + 1))), (a2, a3, a4, a5, a6, a7, a8, a9, a10))))) (
      some (.inr (.inr ())))
noncomputable def f12j3p : SP := { n := 55, ix := [1], p := (.ptr 0 0), hp := [(.cells (.cons (.int .i64) (.cons .bool (.cons (.int .i64) (.cons (.int .i64) (.cons .bool (.cons (.int .i64) (.cons .bool (.cons (.nums .u64) (.int .i64))))))))))] }
noncomputable def f12j3x : List (Ex × SP) := [(.ret, { n := 55, ix := [2], p := (.int .i64) })]
noncomputable def f12j3 : (Unit × (Int × Bool × Int × Int × Bool × Int × Bool × List Int × Int)) → Option Int := fun s => match s with
  | ((), (a1, a2, a3, a4, a5, a6, a7, a8, a9)) =>
    cond (decide ((((a8.length) : Nat) : Int) > 16)) (
      some 8) (
      Option.bind (loopFix f12l6 (((), 1), (a1, a2, a3, a4, a5, a6, a7, a8, a9))) fun y1 =>
      match y1 with
      | (.inl y2) =>
        some y2
      | (.inr y3) =>
        some 0)
noncomputable def f12 (a1 : Int) (a2 : Bool) (a3 : Int) (a4 : Int) (a5 : Bool) (a6 : Int) (a7 : Bool) (a8 : List Int) (a9 : Int) : Option Int :=
  Option.bind (f19 a1 0 2) fun y1 =>
  cond (!y1) (
    some 9) (
    Option.bind (f19 a3 1 4) fun y2 =>
    cond (!y2) (
      some 9) (
      Option.bind (f19 a4 1 3) fun y3 =>
      cond (!y3) (
        some 9) (
        Option.bind (f19 a6 0 2) fun y4 =>
        cond (!y4) (
          some 9) (
          Option.bind (f19 a9 1 1099511627776) fun y5 =>
          cond (!y5) (
            some 9) (
            Option.bind (f12j3 ((), (a1, a2, a3, a4, a5, a6, a7, a8, a9))) fun y6 =>
            some y6)))))
noncomputable def f12C : Cal := tbl [(19, (ent (.cons (.int .i64) (.cons (.int .i64) (.int .i64))) [] .bool [] f19W))]
theorem f12C_ok : CalOK Try.prog f12C ∧ CalNt f12C := tbl_ok (by
  intro p hp
  simp only [List.mem_cons, List.not_mem_nil, or_false] at hp
  rcases hp with rfl
  exact f19_ok)
noncomputable def f12F : FH := { join := [(3, { keep := [1] })], loops := [(6, { keep := [1, 3] }, { keep := [2] })] }
theorem f12l6_s (a1 : Int) (a2 : Int) (a3 : Bool) (a4 : Int) (a5 : Int) (a6 : Bool) (a7 : Int) (a8 : Bool) (a9 : List Int) (a10 : Int) : stepC Try.prog f12C f12F [] [] 0 ((loopsAt 6 (codeOf Try.f12)).headD .skip) f12l6p f12l6x { keep := [1, 3] } { keep := [2] } (((), a1), (a2, a3, a4, a5, a6, a7, a8, a9, a10)) _ some = f12l6 (((), a1), (a2, a3, a4, a5, a6, a7, a8, a9, a10)) := by kernel_rfl
theorem f12l6_t : ToldC Try.prog 0 (codeOf Try.f12) ((6, toldL f12l6p f12l6x f12l6) :: []) [] :=
  ToldC.loop f12F 0 (ToldC.nil 0) f12C_ok 6 ((loopsAt 6 (codeOf Try.f12)).headD .skip) (by kernel_rfl) (p := f12l6p) (px := f12l6x) (g := f12l6) (hi := { keep := [1, 3] }) (ho := { keep := [2] }) fun (x : ((Unit × Int) × (Int × Bool × Int × Int × Bool × Int × Bool × List Int × Int))) => f12l6_s x.1.2 x.2.1 x.2.2.1 x.2.2.2.1 x.2.2.2.2.1 x.2.2.2.2.2.1 x.2.2.2.2.2.2.1 x.2.2.2.2.2.2.2.1 x.2.2.2.2.2.2.2.2.1 x.2.2.2.2.2.2.2.2.2
theorem f12j3_s (a1 : Int) (a2 : Bool) (a3 : Int) (a4 : Int) (a5 : Bool) (a6 : Int) (a7 : Bool) (a8 : List Int) (a9 : Int) : joinC Try.prog f12C f12F ((6, toldL f12l6p f12l6x f12l6) :: []) [] 0 ((joinsAt 3 (codeOf Try.f12)).headD .skip) f12j3p f12j3x { keep := [2] } ((), (a1, a2, a3, a4, a5, a6, a7, a8, a9)) _ some = f12j3 ((), (a1, a2, a3, a4, a5, a6, a7, a8, a9)) := by kernel_rfl
theorem f12j3_t : ToldC Try.prog 0 (codeOf Try.f12) ((6, toldL f12l6p f12l6x f12l6) :: []) ((3, toldJ f12j3p f12j3x f12j3) :: []) :=
  ToldC.join f12F 0 f12l6_t f12C_ok 3 ((joinsAt 3 (codeOf Try.f12)).headD .skip) (by kernel_rfl) (p := f12j3p) (px := f12j3x) (g := f12j3) (ho := { keep := [2] }) fun (x : (Unit × (Int × Bool × Int × Int × Bool × Int × Bool × List Int × Int))) => f12j3_s x.2.1 x.2.2.1 x.2.2.2.1 x.2.2.2.2.1 x.2.2.2.2.2.1 x.2.2.2.2.2.2.1 x.2.2.2.2.2.2.2.1 x.2.2.2.2.2.2.2.2.1 x.2.2.2.2.2.2.2.2.2
theorem f12_b (a1 : Int) (a2 : Bool) (a3 : Int) (a4 : Int) (a5 : Bool) (a6 : Int) (a7 : Bool) (a8 : List Int) (a9 : Int) : bodyC Try.prog f12C f12F ((6, toldL f12l6p f12l6x f12l6) :: []) ((3, toldJ f12j3p f12j3x f12j3) :: []) { keep := [] } 12 (.agg (.cons (.int .i64) (.cons .bool (.cons (.int .i64) (.cons (.int .i64) (.cons .bool (.cons (.int .i64) (.cons .bool (.cons (.nums .u64) (.int .i64)))))))))) [] (.int .i64) [] (a1, a2, a3, a4, a5, a6, a7, a8, a9) _ some = f12 a1 a2 a3 a4 a5 a6 a7 a8 a9 := by kernel_rfl
noncomputable def f12W (x : TyA (.agg (.cons (.int .i64) (.cons .bool (.cons (.int .i64) (.cons (.int .i64) (.cons .bool (.cons (.int .i64) (.cons .bool (.cons (.nums .u64) (.int .i64)))))))))) []) : Option (TyR (.int .i64) []) := f12 x.1 x.2.1 x.2.2.1 x.2.2.2.1 x.2.2.2.2.1 x.2.2.2.2.2.1 x.2.2.2.2.2.2.1 x.2.2.2.2.2.2.2.1 x.2.2.2.2.2.2.2.2
theorem f12_ok : EntOK Try.prog 12 (ent (.agg (.cons (.int .i64) (.cons .bool (.cons (.int .i64) (.cons (.int .i64) (.cons .bool (.cons (.int .i64) (.cons .bool (.cons (.nums .u64) (.int .i64)))))))))) [] (.int .i64) [] f12W) :=
  ent_ok f12F f12C_ok (hp := []) (fn := Try.f12) (by kernel_rfl) f12j3_t fun (x : (Int × Bool × Int × Int × Bool × Int × Bool × List Int × Int)) => f12_b x.1 x.2.1 x.2.2.1 x.2.2.2.1 x.2.2.2.2.1 x.2.2.2.2.2.1 x.2.2.2.2.2.2.1 x.2.2.2.2.2.2.2.1 x.2.2.2.2.2.2.2.2

/-! f3: passkey/passkeylaw31.PolicyValidates -/
noncomputable def f3j24p : SP := { n := 94, ix := [2, 6], p := (.cons (.ptr 0 0) (.ptr 1 0)), hp := [(.cells (.cons (.int .i64) (.cons .bool (.cons (.int .i64) (.cons (.int .i64) (.cons .bool (.cons (.int .i64) (.cons .bool (.cons (.nums .u64) (.int .i64)))))))))), (.cells (.cons (.int .i64) (.cons .bool (.cons (.int .i64) (.cons (.int .i64) (.cons .bool (.cons (.int .i64) (.cons .bool (.cons (.nums .u64) (.int .i64))))))))))] }
noncomputable def f3j24x : List (Ex × SP) := [(.ret, { n := 94, ix := [4], p := .bool })]
noncomputable def f3j24 : ((Unit × Unit) × ((Int × Bool × Int × Int × Bool × Int × Bool × List Int × Int) × (Int × Bool × Int × Int × Bool × Int × Bool × List Int × Int))) → Option Bool := fun s => match s with
  | (((), ()), ((a1, a2, a3, a4, a5, a6, a7, a8, a9), (a10, a11, a12, a13, a14, a15, a16, a17, a18))) =>
    Option.bind (f11 a1 a2 a3 a4 a5 a6 a7 a8 a9) fun y1 =>
    Option.bind (f12 a1 a2 a3 a4 a5 a6 a7 a8 a9) fun y2 =>
    cond (y1 == y2) (
      Option.bind (f11 a10 a11 a12 a13 a14 a15 a16 a17 a18) fun y3 =>
      Option.bind (f12 a10 a11 a12 a13 a14 a15 a16 a17 a18) fun y4 =>
      cond (y3 == y4) (
        Option.bind f7 fun y5 =>
        some y5) (
        some false)) (
      some false)
noncomputable def f3l19p : SP := { n := 94, ix := [2, 6, 7], p := (.cons (.ptr 0 0) (.cons (.ptr 1 0) (.int .i64))), hp := [(.cells (.cons (.int .i64) (.cons .bool (.cons (.int .i64) (.cons (.int .i64) (.cons .bool (.cons (.int .i64) (.cons .bool (.cons (.nums .u64) (.int .i64)))))))))), (.cells (.cons (.int .i64) (.cons .bool (.cons (.int .i64) (.cons (.int .i64) (.cons .bool (.cons (.int .i64) (.cons .bool (.cons (.ref 2) (.int .i64)))))))))), (.arrN 1 31 .u64)] }
noncomputable def f3l19x : List (Ex × SP) := [((.exit 1), { n := 94, ix := [2, 6], p := (.cons (.ptr 0 0) (.ptr 1 0)), hp := [(.cells (.cons (.int .i64) (.cons .bool (.cons (.int .i64) (.cons (.int .i64) (.cons .bool (.cons (.int .i64) (.cons .bool (.cons (.nums .u64) (.int .i64)))))))))), (.cells (.cons (.int .i64) (.cons .bool (.cons (.int .i64) (.cons (.int .i64) (.cons .bool (.cons (.int .i64) (.cons .bool (.cons (.ref 2) (.int .i64)))))))))), (.arrN 1 31 .u64)] })]
noncomputable def f3l19 : ((Unit × Unit × Int) × ((Int × Bool × Int × Int × Bool × Int × Bool × List Int × Int) × (Int × Bool × Int × Int × Bool × Int × Bool × Unit × Int) × List Int)) → Option (((Unit × Unit × Int) × ((Int × Bool × Int × Int × Bool × Int × Bool × List Int × Int) × (Int × Bool × Int × Int × Bool × Int × Bool × Unit × Int) × List Int)) ⊕ ((Unit × Unit) × ((Int × Bool × Int × Int × Bool × Int × Bool × List Int × Int) × (Int × Bool × Int × Int × Bool × Int × Bool × Unit × Int) × List Int))) := fun s => match s with
  | (((), (), a1), ((a2, a3, a4, a5, a6, a7, a8, a9, a10), (a11, a12, a13, a14, a15, a16, a17, (), a18), a19)) =>
    cond (decide (a1 > 0)) (
      cond (decide (((a19 ++ [(IntKind.u64.wrap (((a19.length) : Nat) : Int))]).length) * 8 ≤ 140737488355328)) (
        some (.inl (((), (), (IntKind.i64.wrap (a1 - 1))), ((a2, a3, a4, a5, a6, a7, a8, a9, a10), (a11, a12, a13, a14, a15, a16, a17, (), a18), (a19 ++ [(IntKind.u64.wrap (((a19.length) : Nat) : Int))]))))) none) (
      some (.inr (((), ()), ((a2, a3, a4, a5, a6, a7, a8, a9, a10), (a11, a12, a13, a14, a15, a16, a17, (), a18), a19))))
noncomputable def f3 (a1 : Int) (a2 : Bool) (a3 : Int) (a4 : Int) (a5 : Bool) (a6 : Int) (a7 : Bool) (a8 : List Int) (a9 : Int) (a10 : List Int) : Option Bool :=
  cond (decide ((((a8.length) : Nat) : Int) > 40)) (
    Option.bind f7 fun y1 =>
    some y1) (
    Option.bind (f8 a10) fun y2 =>
    Option.bind (f9 y2.2.1 y2.2.2) fun y3 =>
    Option.bind (f10 9 y3.2.1 y3.2.2) fun y4 =>
    cond (y4.1 == 0) (
      Option.bind (f10 5 y4.2.1 y4.2.2) fun y5 =>
      Option.bind (f3j24 (((), ()), ((a1, a2, a3, a4, a5, a6, a7, a8, a9), ((IntKind.i64.wrap (y5.1 - 1)), y3.1.2.1, y3.1.2.2.1, y3.1.2.2.2.1, y3.1.2.2.2.2.1, y3.1.2.2.2.2.2.1, y3.1.2.2.2.2.2.2.1, y3.1.2.2.2.2.2.2.2.1, y3.1.2.2.2.2.2.2.2.2)))) fun y6 =>
      some y6) (
      cond (y4.1 == 1) (
        Option.bind (f10 7 y4.2.1 y4.2.2) fun y7 =>
        Option.bind (f3j24 (((), ()), ((a1, a2, a3, a4, a5, a6, a7, a8, a9), (y3.1.1, y3.1.2.1, (IntKind.i64.wrap (y7.1 - 1)), y3.1.2.2.2.1, y3.1.2.2.2.2.1, y3.1.2.2.2.2.2.1, y3.1.2.2.2.2.2.2.1, y3.1.2.2.2.2.2.2.2.1, y3.1.2.2.2.2.2.2.2.2)))) fun y8 =>
        some y8) (
        cond (y4.1 == 2) (
          Option.bind (f10 6 y4.2.1 y4.2.2) fun y9 =>
          Option.bind (f3j24 (((), ()), ((a1, a2, a3, a4, a5, a6, a7, a8, a9), (y3.1.1, y3.1.2.1, y3.1.2.2.1, (IntKind.i64.wrap (y9.1 - 1)), y3.1.2.2.2.2.1, y3.1.2.2.2.2.2.1, y3.1.2.2.2.2.2.2.1, y3.1.2.2.2.2.2.2.2.1, y3.1.2.2.2.2.2.2.2.2)))) fun y10 =>
          some y10) (
          cond (y4.1 == 3) (
            Option.bind (f10 5 y4.2.1 y4.2.2) fun y11 =>
            Option.bind (f3j24 (((), ()), ((a1, a2, a3, a4, a5, a6, a7, a8, a9), (y3.1.1, y3.1.2.1, y3.1.2.2.1, y3.1.2.2.2.1, y3.1.2.2.2.2.1, (IntKind.i64.wrap (y11.1 - 1)), y3.1.2.2.2.2.2.2.1, y3.1.2.2.2.2.2.2.2.1, y3.1.2.2.2.2.2.2.2.2)))) fun y12 =>
            some y12) (
            cond (y4.1 == 4) (
              Option.bind (f10 5 y4.2.1 y4.2.2) fun y13 =>
              cond (inRange y13.1 5) (
                Option.bind ([0, 1, 1099511627776, 1099511627777, (-1)][(Int.toNat y13.1)]?) fun y14 =>
                Option.bind (f3j24 (((), ()), ((a1, a2, a3, a4, a5, a6, a7, a8, a9), (y3.1.1, y3.1.2.1, y3.1.2.2.1, y3.1.2.2.2.1, y3.1.2.2.2.2.1, y3.1.2.2.2.2.2.1, y3.1.2.2.2.2.2.2.1, y3.1.2.2.2.2.2.2.2.1, y14)))) fun y15 =>
                some y15) none) (
              cond (y4.1 == 5) (
                Option.bind (f10 19 y4.2.1 y4.2.2) fun y16 =>
                Option.bind (loopFix f3l19 (((), (), y16.1), ((a1, a2, a3, a4, a5, a6, a7, a8, a9), (y3.1.1, y3.1.2.1, y3.1.2.2.1, y3.1.2.2.2.1, y3.1.2.2.2.2.1, y3.1.2.2.2.2.2.1, y3.1.2.2.2.2.2.2.1, (), y3.1.2.2.2.2.2.2.2.2), []))) fun y17 =>
                Option.bind (f3j24 (((), ()), ((y17.2.1.1, y17.2.1.2.1, y17.2.1.2.2.1, y17.2.1.2.2.2.1, y17.2.1.2.2.2.2.1, y17.2.1.2.2.2.2.2.1, y17.2.1.2.2.2.2.2.2.1, y17.2.1.2.2.2.2.2.2.2.1, y17.2.1.2.2.2.2.2.2.2.2), (y17.2.2.1.1, y17.2.2.1.2.1, y17.2.2.1.2.2.1, y17.2.2.1.2.2.2.1, y17.2.2.1.2.2.2.2.1, y17.2.2.1.2.2.2.2.2.1, y17.2.2.1.2.2.2.2.2.2.1, y17.2.2.2, y17.2.2.1.2.2.2.2.2.2.2.2)))) fun y18 =>
                some y18) (
                cond (y4.1 == 6) (
                  Option.bind (f10 3 y4.2.1 y4.2.2) fun y19 =>
                  Option.bind (f10 3 y19.2.1 y19.2.2) fun y20 =>
                  Option.bind (f3j24 (((), ()), ((a1, a2, a3, a4, a5, a6, a7, a8, a9), (y3.1.1, y3.1.2.1, y3.1.2.2.1, y3.1.2.2.2.1, y3.1.2.2.2.2.1, y3.1.2.2.2.2.2.1, y3.1.2.2.2.2.2.2.1, [(IntKind.u64.wrap y19.1), (IntKind.u64.wrap y20.1)], y3.1.2.2.2.2.2.2.2.2)))) fun y21 =>
                  some y21) (
                  Option.bind (f3j24 (((), ()), ((a1, a2, a3, a4, a5, a6, a7, a8, a9), (y3.1.1, y3.1.2.1, y3.1.2.2.1, y3.1.2.2.2.1, y3.1.2.2.2.2.1, y3.1.2.2.2.2.2.1, y3.1.2.2.2.2.2.2.1, y3.1.2.2.2.2.2.2.2.1, y3.1.2.2.2.2.2.2.2.2)))) fun y22 =>
                  some y22))))))))
noncomputable def f3C : Cal := tbl [(7, (ent .nil [] .bool [] f7W)), (8, (ent (.nums .i64) [] (.ptr 0 0) [(.cells (.cons (.nums .i64) (.int .i64)))] f8W)), (9, (ent (.ptr 0 0) [(.cells (.cons (.nums .i64) (.int .i64)))] (.agg (.cons (.int .i64) (.cons .bool (.cons (.int .i64) (.cons (.int .i64) (.cons .bool (.cons (.int .i64) (.cons .bool (.cons (.nums .u64) (.int .i64)))))))))) [(.cells (.cons (.nums .i64) (.int .i64)))] f9W)), (10, (ent (.cons (.ptr 0 0) (.int .i64)) [(.cells (.cons (.nums .i64) (.int .i64)))] (.int .i64) [(.cells (.cons (.nums .i64) (.int .i64)))] f10W)), (11, (ent (.agg (.cons (.int .i64) (.cons .bool (.cons (.int .i64) (.cons (.int .i64) (.cons .bool (.cons (.int .i64) (.cons .bool (.cons (.nums .u64) (.int .i64)))))))))) [] (.int .i64) [] f11W)), (12, (ent (.agg (.cons (.int .i64) (.cons .bool (.cons (.int .i64) (.cons (.int .i64) (.cons .bool (.cons (.int .i64) (.cons .bool (.cons (.nums .u64) (.int .i64)))))))))) [] (.int .i64) [] f12W))]
theorem f3C_ok : CalOK Try.prog f3C ∧ CalNt f3C := tbl_ok (by
  intro p hp
  simp only [List.mem_cons, List.not_mem_nil, or_false] at hp
  rcases hp with rfl | rfl | rfl | rfl | rfl | rfl
  · exact f7_ok
  · exact f8_ok
  · exact f9_ok
  · exact f10_ok
  · exact f11_ok
  · exact f12_ok)
noncomputable def f3F : FH := { join := [(24, { keep := [2, 6], fzC := [(6, 7)] })], loops := [(19, { keep := [2, 6, 7], ownC := [(6, 7, 31)] }, { keep := [2, 4, 6] })] }
theorem f3j24_s (a1 : Int) (a2 : Bool) (a3 : Int) (a4 : Int) (a5 : Bool) (a6 : Int) (a7 : Bool) (a8 : List Int) (a9 : Int) (a10 : Int) (a11 : Bool) (a12 : Int) (a13 : Int) (a14 : Bool) (a15 : Int) (a16 : Bool) (a17 : List Int) (a18 : Int) : joinC Try.prog f3C f3F [] [] 0 ((joinsAt 24 (codeOf Try.f3)).headD .skip) f3j24p f3j24x { keep := [4] } (((), ()), ((a1, a2, a3, a4, a5, a6, a7, a8, a9), (a10, a11, a12, a13, a14, a15, a16, a17, a18))) _ some = f3j24 (((), ()), ((a1, a2, a3, a4, a5, a6, a7, a8, a9), (a10, a11, a12, a13, a14, a15, a16, a17, a18))) := by kernel_rfl
theorem f3j24_t : ToldC Try.prog 0 (codeOf Try.f3) [] ((24, toldJ f3j24p f3j24x f3j24) :: []) :=
  ToldC.join f3F 0 (ToldC.nil 0) f3C_ok 24 ((joinsAt 24 (codeOf Try.f3)).headD .skip) (by kernel_rfl) (p := f3j24p) (px := f3j24x) (g := f3j24) (ho := { keep := [4] }) fun (x : ((Unit × Unit) × ((Int × Bool × Int × Int × Bool × Int × Bool × List Int × Int) × (Int × Bool × Int × Int × Bool × Int × Bool × List Int × Int)))) => f3j24_s x.2.1.1 x.2.1.2.1 x.2.1.2.2.1 x.2.1.2.2.2.1 x.2.1.2.2.2.2.1 x.2.1.2.2.2.2.2.1 x.2.1.2.2.2.2.2.2.1 x.2.1.2.2.2.2.2.2.2.1 x.2.1.2.2.2.2.2.2.2.2 x.2.2.1 x.2.2.2.1 x.2.2.2.2.1 x.2.2.2.2.2.1 x.2.2.2.2.2.2.1 x.2.2.2.2.2.2.2.1 x.2.2.2.2.2.2.2.2.1 x.2.2.2.2.2.2.2.2.2.1 x.2.2.2.2.2.2.2.2.2.2
theorem f3l19_s (a1 : Int) (a2 : Int) (a3 : Bool) (a4 : Int) (a5 : Int) (a6 : Bool) (a7 : Int) (a8 : Bool) (a9 : List Int) (a10 : Int) (a11 : Int) (a12 : Bool) (a13 : Int) (a14 : Int) (a15 : Bool) (a16 : Int) (a17 : Bool) (a18 : Int) (a19 : List Int) : stepC Try.prog f3C f3F [] ((24, toldJ f3j24p f3j24x f3j24) :: []) 0 ((loopsAt 19 (codeOf Try.f3)).headD .skip) f3l19p f3l19x { keep := [2, 6, 7], ownC := [(6, 7, 31)] } { keep := [2, 4, 6] } (((), (), a1), ((a2, a3, a4, a5, a6, a7, a8, a9, a10), (a11, a12, a13, a14, a15, a16, a17, (), a18), a19)) _ some = f3l19 (((), (), a1), ((a2, a3, a4, a5, a6, a7, a8, a9, a10), (a11, a12, a13, a14, a15, a16, a17, (), a18), a19)) := by kernel_rfl
theorem f3l19_t : ToldC Try.prog 0 (codeOf Try.f3) ((19, toldL f3l19p f3l19x f3l19) :: []) ((24, toldJ f3j24p f3j24x f3j24) :: []) :=
  ToldC.loop f3F 0 f3j24_t f3C_ok 19 ((loopsAt 19 (codeOf Try.f3)).headD .skip) (by kernel_rfl) (p := f3l19p) (px := f3l19x) (g := f3l19) (hi := { keep := [2, 6, 7], ownC := [(6, 7, 31)] }) (ho := { keep := [2, 4, 6] }) fun (x : ((Unit × Unit × Int) × ((Int × Bool × Int × Int × Bool × Int × Bool × List Int × Int) × (Int × Bool × Int × Int × Bool × Int × Bool × Unit × Int) × List Int))) => f3l19_s x.1.2.2 x.2.1.1 x.2.1.2.1 x.2.1.2.2.1 x.2.1.2.2.2.1 x.2.1.2.2.2.2.1 x.2.1.2.2.2.2.2.1 x.2.1.2.2.2.2.2.2.1 x.2.1.2.2.2.2.2.2.2.1 x.2.1.2.2.2.2.2.2.2.2 x.2.2.1.1 x.2.2.1.2.1 x.2.2.1.2.2.1 x.2.2.1.2.2.2.1 x.2.2.1.2.2.2.2.1 x.2.2.1.2.2.2.2.2.1 x.2.2.1.2.2.2.2.2.2.1 x.2.2.1.2.2.2.2.2.2.2.2 x.2.2.2
theorem f3_b (a1 : Int) (a2 : Bool) (a3 : Int) (a4 : Int) (a5 : Bool) (a6 : Int) (a7 : Bool) (a8 : List Int) (a9 : Int) (a10 : List Int) : bodyC Try.prog f3C f3F ((19, toldL f3l19p f3l19x f3l19) :: []) ((24, toldJ f3j24p f3j24x f3j24) :: []) { keep := [] } 3 (.cons (.agg (.cons (.int .i64) (.cons .bool (.cons (.int .i64) (.cons (.int .i64) (.cons .bool (.cons (.int .i64) (.cons .bool (.cons (.nums .u64) (.int .i64)))))))))) (.nums .i64)) [] .bool [] ((a1, a2, a3, a4, a5, a6, a7, a8, a9), a10) _ some = f3 a1 a2 a3 a4 a5 a6 a7 a8 a9 a10 := by kernel_rfl
noncomputable def f3W (x : TyA (.cons (.agg (.cons (.int .i64) (.cons .bool (.cons (.int .i64) (.cons (.int .i64) (.cons .bool (.cons (.int .i64) (.cons .bool (.cons (.nums .u64) (.int .i64)))))))))) (.nums .i64)) []) : Option (TyR .bool []) := f3 x.1.1 x.1.2.1 x.1.2.2.1 x.1.2.2.2.1 x.1.2.2.2.2.1 x.1.2.2.2.2.2.1 x.1.2.2.2.2.2.2.1 x.1.2.2.2.2.2.2.2.1 x.1.2.2.2.2.2.2.2.2 x.2
theorem f3_ok : EntOK Try.prog 3 (ent (.cons (.agg (.cons (.int .i64) (.cons .bool (.cons (.int .i64) (.cons (.int .i64) (.cons .bool (.cons (.int .i64) (.cons .bool (.cons (.nums .u64) (.int .i64)))))))))) (.nums .i64)) [] .bool [] f3W) :=
  ent_ok f3F f3C_ok (hp := []) (fn := Try.f3) (by kernel_rfl) f3l19_t fun (x : ((Int × Bool × Int × Int × Bool × Int × Bool × List Int × Int) × List Int)) => f3_b x.1.1 x.1.2.1 x.1.2.2.1 x.1.2.2.2.1 x.1.2.2.2.2.1 x.1.2.2.2.2.2.1 x.1.2.2.2.2.2.2.1 x.1.2.2.2.2.2.2.2.1 x.1.2.2.2.2.2.2.2.2 x.2

/-! f13: passkey/passkeylaw31.facts -/
noncomputable def f13 (a1 : List Int) (a2 : Int) : Option (((Int × Int × Int × Int × Int × List Int × Int × Int) × (Int × Int × Int) × Int) × (List Int × Int)) :=
  Option.bind (f10 6 a1 a2) fun y1 =>
  cond (inRange y1.1 6) (
    Option.bind ([1, 5, 0, 4, 13, 25][(Int.toNat y1.1)]?) fun y2 =>
    Option.bind (f10 8 y1.2.1 y1.2.2) fun y3 =>
    Option.bind (f10 5 y3.2.1 y3.2.2) fun y4 =>
    Option.bind (f10 3 y4.2.1 y4.2.2) fun y5 =>
    Option.bind (f10 5 y5.2.1 y5.2.2) fun y6 =>
    some (((0, y2, 0, 0, (IntKind.u64.wrap y3.1), [], y4.1, 0), (y5.1, 0, 0), y6.1), (y6.2.1, y6.2.2))) none
noncomputable def f13C : Cal := tbl [(10, (ent (.cons (.ptr 0 0) (.int .i64)) [(.cells (.cons (.nums .i64) (.int .i64)))] (.int .i64) [(.cells (.cons (.nums .i64) (.int .i64)))] f10W))]
theorem f13C_ok : CalOK Try.prog f13C ∧ CalNt f13C := tbl_ok (by
  intro p hp
  simp only [List.mem_cons, List.not_mem_nil, or_false] at hp
  rcases hp with rfl
  exact f10_ok)
noncomputable def f13F : FH := {}
theorem f13_b (a1 : List Int) (a2 : Int) : bodyC Try.prog f13C f13F [] [] { keep := [] } 13 (.ptr 0 0) [(.cells (.cons (.nums .i64) (.int .i64)))] (.tup (.cons (.agg (.cons (.int .u64) (.cons (.int .i64) (.cons (.int .i64) (.cons (.int .i64) (.cons (.int .u64) (.cons (.nums .u8) (.cons (.int .i64) (.int .u64))))))))) (.cons (.agg (.cons (.int .i64) (.cons (.int .i64) (.int .i64)))) (.int .i64)))) [(.cells (.cons (.nums .i64) (.int .i64)))] ((), (a1, a2)) _ some = f13 a1 a2 := by kernel_rfl
noncomputable def f13W (x : TyA (.ptr 0 0) [(.cells (.cons (.nums .i64) (.int .i64)))]) : Option (TyR (.tup (.cons (.agg (.cons (.int .u64) (.cons (.int .i64) (.cons (.int .i64) (.cons (.int .i64) (.cons (.int .u64) (.cons (.nums .u8) (.cons (.int .i64) (.int .u64))))))))) (.cons (.agg (.cons (.int .i64) (.cons (.int .i64) (.int .i64)))) (.int .i64)))) [(.cells (.cons (.nums .i64) (.int .i64)))]) := f13 x.2.1 x.2.2
theorem f13_ok : EntOK Try.prog 13 (ent (.ptr 0 0) [(.cells (.cons (.nums .i64) (.int .i64)))] (.tup (.cons (.agg (.cons (.int .u64) (.cons (.int .i64) (.cons (.int .i64) (.cons (.int .i64) (.cons (.int .u64) (.cons (.nums .u8) (.cons (.int .i64) (.int .u64))))))))) (.cons (.agg (.cons (.int .i64) (.cons (.int .i64) (.int .i64)))) (.int .i64)))) [(.cells (.cons (.nums .i64) (.int .i64)))] f13W) :=
  ent_ok f13F f13C_ok (hp := [(.cells (.cons (.nums .i64) (.int .i64)))]) (fn := Try.f13) (by kernel_rfl) (ToldC.nil 1) fun (x : (Unit × (List Int × Int))) => f13_b x.2.1 x.2.2

/-! f22: passkey/passkeyref29.consent -/
noncomputable def f22 (a1 : Int) (a2 : Bool) (a3 : Int) (a4 : Int) (a5 : Bool) (a6 : Int) (a7 : Bool) (a8 : List Int) (a9 : Int) (a10 : Int) : Option Int :=
  cond ((bitsI .and .i64 a10 1) == 0) (
    some 22) (
    cond (a1 == 2) (
      cond ((bitsI .and .i64 a10 4) == 0) (
        some 23) (
        some 0)) (
      some 0))
noncomputable def f22C : Cal := tbl []
theorem f22C_ok : CalOK Try.prog f22C ∧ CalNt f22C := tbl_ok (by intro p hp; simp at hp)
noncomputable def f22F : FH := {}
theorem f22_b (a1 : Int) (a2 : Bool) (a3 : Int) (a4 : Int) (a5 : Bool) (a6 : Int) (a7 : Bool) (a8 : List Int) (a9 : Int) (a10 : Int) : bodyC Try.prog f22C f22F [] [] { keep := [] } 22 (.cons (.agg (.cons (.int .i64) (.cons .bool (.cons (.int .i64) (.cons (.int .i64) (.cons .bool (.cons (.int .i64) (.cons .bool (.cons (.nums .u64) (.int .i64)))))))))) (.int .i64)) [] (.int .i64) [] ((a1, a2, a3, a4, a5, a6, a7, a8, a9), a10) _ some = f22 a1 a2 a3 a4 a5 a6 a7 a8 a9 a10 := by kernel_rfl
noncomputable def f22W (x : TyA (.cons (.agg (.cons (.int .i64) (.cons .bool (.cons (.int .i64) (.cons (.int .i64) (.cons .bool (.cons (.int .i64) (.cons .bool (.cons (.nums .u64) (.int .i64)))))))))) (.int .i64)) []) : Option (TyR (.int .i64) []) := f22 x.1.1 x.1.2.1 x.1.2.2.1 x.1.2.2.2.1 x.1.2.2.2.2.1 x.1.2.2.2.2.2.1 x.1.2.2.2.2.2.2.1 x.1.2.2.2.2.2.2.2.1 x.1.2.2.2.2.2.2.2.2 x.2
theorem f22_ok : EntOK Try.prog 22 (ent (.cons (.agg (.cons (.int .i64) (.cons .bool (.cons (.int .i64) (.cons (.int .i64) (.cons .bool (.cons (.int .i64) (.cons .bool (.cons (.nums .u64) (.int .i64)))))))))) (.int .i64)) [] (.int .i64) [] f22W) :=
  ent_ok f22F f22C_ok (hp := []) (fn := Try.f22) (by kernel_rfl) (ToldC.nil 0) fun (x : ((Int × Bool × Int × Int × Bool × Int × Bool × List Int × Int) × Int)) => f22_b x.1.1 x.1.2.1 x.1.2.2.1 x.1.2.2.2.1 x.1.2.2.2.2.1 x.1.2.2.2.2.2.1 x.1.2.2.2.2.2.2.1 x.1.2.2.2.2.2.2.2.1 x.1.2.2.2.2.2.2.2.2 x.2

/-! f23: passkey/passkeyref29.model -/
noncomputable def f23l4p : SP := { n := 35, ix := [1, 2, 3, 7], p := (.cons (.int .u64) (.cons (.int .i64) (.cons (.ptr 0 0) (.int .i64)))), hp := [(.cells (.cons (.int .i64) (.cons .bool (.cons (.int .i64) (.cons (.int .i64) (.cons .bool (.cons (.int .i64) (.cons .bool (.cons (.nums .u64) (.int .i64))))))))))] }
noncomputable def f23l4x : List (Ex × SP) := [(.ret, { n := 35, ix := [6], p := (.int .i64), hp := [(.cells (.cons (.int .i64) (.cons .bool (.cons (.int .i64) (.cons (.int .i64) (.cons .bool (.cons (.int .i64) (.cons .bool (.cons (.nums .u64) (.int .i64))))))))))] }), ((.exit 0), { n := 35, ix := [2, 3], p := (.cons (.int .i64) (.ptr 0 0)), hp := [(.cells (.cons (.int .i64) (.cons .bool (.cons (.int .i64) (.cons (.int .i64) (.cons .bool (.cons (.int .i64) (.cons .bool (.cons (.nums .u64) (.int .i64))))))))))] })]
noncomputable def f23l4 : ((Int × Int × Unit × Int) × (Int × Bool × Int × Int × Bool × Int × Bool × List Int × Int)) → Option (((Int × Int × Unit × Int) × (Int × Bool × Int × Int × Bool × Int × Bool × List Int × Int)) ⊕ ((Int × (Int × Bool × Int × Int × Bool × Int × Bool × List Int × Int)) ⊕ ((Int × Unit) × (Int × Bool × Int × Int × Bool × Int × Bool × List Int × Int)))) := fun s => match s with
  | ((a1, a2, (), a3), (a4, a5, a6, a7, a8, a9, a10, a11, a12)) =>
    cond (decide (a3 < (((a11.length) : Nat) : Int))) (
      Option.bind (getI a11 a3) fun y1 =>
      cond (y1 == a1) (
        some (.inr (.inl (40, (a4, a5, a6, a7, a8, a9, a10, a11, a12))))) (
        some (.inl ((a1, a2, (), (IntKind.i64.wrap (a3 + 1))), (a4, a5, a6, a7, a8, a9, a10, a11, a12))))) (
      some (.inr (.inr ((a2, ()), (a4, a5, a6, a7, a8, a9, a10, a11, a12)))))
noncomputable def f23j3p : SP := { n := 35, ix := [1, 2, 3], p := (.cons (.int .u64) (.cons (.int .i64) (.ptr 0 0))), hp := [(.cells (.cons (.int .i64) (.cons .bool (.cons (.int .i64) (.cons (.int .i64) (.cons .bool (.cons (.int .i64) (.cons .bool (.cons (.nums .u64) (.int .i64))))))))))] }
noncomputable def f23j3x : List (Ex × SP) := [(.ret, { n := 35, ix := [6], p := (.int .i64) })]
noncomputable def f23j3 : ((Int × Int × Unit) × (Int × Bool × Int × Int × Bool × Int × Bool × List Int × Int)) → Option Int := fun s => match s with
  | ((a1, a2, ()), (a3, a4, a5, a6, a7, a8, a9, a10, a11)) =>
    Option.bind (loopFix f23l4 ((a1, a2, (), 0), (a3, a4, a5, a6, a7, a8, a9, a10, a11))) fun y1 =>
    match y1 with
    | (.inl y2) =>
      some y2.1
    | (.inr y3) =>
      cond (y3.1.1 == 2) (
        cond (!y3.2.2.2.2.2.2.2.1) (
          some 40) (
          some 0)) (
        some 0)
noncomputable def f23 (a1 : Int) (a2 : Bool) (a3 : Int) (a4 : Int) (a5 : Bool) (a6 : Int) (a7 : Bool) (a8 : List Int) (a9 : Int) (a10 : Int) (a11 : Int) : Option Int :=
  cond (a11 == 3) (
    some 39) (
    cond (a11 == 4) (
      some 39) (
      Option.bind (f23j3 ((a10, a11, ()), (a1, a2, a3, a4, a5, a6, a7, a8, a9))) fun y1 =>
      some y1))
noncomputable def f23C : Cal := tbl []
theorem f23C_ok : CalOK Try.prog f23C ∧ CalNt f23C := tbl_ok (by intro p hp; simp at hp)
noncomputable def f23F : FH := { join := [(3, { keep := [1, 2, 3] })], loops := [(4, { keep := [1, 2, 3, 7] }, { keep := [2, 3, 6] })] }
theorem f23l4_s (a1 : Int) (a2 : Int) (a3 : Int) (a4 : Int) (a5 : Bool) (a6 : Int) (a7 : Int) (a8 : Bool) (a9 : Int) (a10 : Bool) (a11 : List Int) (a12 : Int) : stepC Try.prog f23C f23F [] [] 0 ((loopsAt 4 (codeOf Try.f23)).headD .skip) f23l4p f23l4x { keep := [1, 2, 3, 7] } { keep := [2, 3, 6] } ((a1, a2, (), a3), (a4, a5, a6, a7, a8, a9, a10, a11, a12)) _ some = f23l4 ((a1, a2, (), a3), (a4, a5, a6, a7, a8, a9, a10, a11, a12)) := by kernel_rfl
theorem f23l4_t : ToldC Try.prog 0 (codeOf Try.f23) ((4, toldL f23l4p f23l4x f23l4) :: []) [] :=
  ToldC.loop f23F 0 (ToldC.nil 0) f23C_ok 4 ((loopsAt 4 (codeOf Try.f23)).headD .skip) (by kernel_rfl) (p := f23l4p) (px := f23l4x) (g := f23l4) (hi := { keep := [1, 2, 3, 7] }) (ho := { keep := [2, 3, 6] }) fun (x : ((Int × Int × Unit × Int) × (Int × Bool × Int × Int × Bool × Int × Bool × List Int × Int))) => f23l4_s x.1.1 x.1.2.1 x.1.2.2.2 x.2.1 x.2.2.1 x.2.2.2.1 x.2.2.2.2.1 x.2.2.2.2.2.1 x.2.2.2.2.2.2.1 x.2.2.2.2.2.2.2.1 x.2.2.2.2.2.2.2.2.1 x.2.2.2.2.2.2.2.2.2
theorem f23j3_s (a1 : Int) (a2 : Int) (a3 : Int) (a4 : Bool) (a5 : Int) (a6 : Int) (a7 : Bool) (a8 : Int) (a9 : Bool) (a10 : List Int) (a11 : Int) : joinC Try.prog f23C f23F ((4, toldL f23l4p f23l4x f23l4) :: []) [] 0 ((joinsAt 3 (codeOf Try.f23)).headD .skip) f23j3p f23j3x { keep := [6] } ((a1, a2, ()), (a3, a4, a5, a6, a7, a8, a9, a10, a11)) _ some = f23j3 ((a1, a2, ()), (a3, a4, a5, a6, a7, a8, a9, a10, a11)) := by kernel_rfl
theorem f23j3_t : ToldC Try.prog 0 (codeOf Try.f23) ((4, toldL f23l4p f23l4x f23l4) :: []) ((3, toldJ f23j3p f23j3x f23j3) :: []) :=
  ToldC.join f23F 0 f23l4_t f23C_ok 3 ((joinsAt 3 (codeOf Try.f23)).headD .skip) (by kernel_rfl) (p := f23j3p) (px := f23j3x) (g := f23j3) (ho := { keep := [6] }) fun (x : ((Int × Int × Unit) × (Int × Bool × Int × Int × Bool × Int × Bool × List Int × Int))) => f23j3_s x.1.1 x.1.2.1 x.2.1 x.2.2.1 x.2.2.2.1 x.2.2.2.2.1 x.2.2.2.2.2.1 x.2.2.2.2.2.2.1 x.2.2.2.2.2.2.2.1 x.2.2.2.2.2.2.2.2.1 x.2.2.2.2.2.2.2.2.2
theorem f23_b (a1 : Int) (a2 : Bool) (a3 : Int) (a4 : Int) (a5 : Bool) (a6 : Int) (a7 : Bool) (a8 : List Int) (a9 : Int) (a10 : Int) (a11 : Int) : bodyC Try.prog f23C f23F ((4, toldL f23l4p f23l4x f23l4) :: []) ((3, toldJ f23j3p f23j3x f23j3) :: []) { keep := [] } 23 (.cons (.agg (.cons (.int .i64) (.cons .bool (.cons (.int .i64) (.cons (.int .i64) (.cons .bool (.cons (.int .i64) (.cons .bool (.cons (.nums .u64) (.int .i64)))))))))) (.cons (.int .u64) (.int .i64))) [] (.int .i64) [] ((a1, a2, a3, a4, a5, a6, a7, a8, a9), a10, a11) _ some = f23 a1 a2 a3 a4 a5 a6 a7 a8 a9 a10 a11 := by kernel_rfl
noncomputable def f23W (x : TyA (.cons (.agg (.cons (.int .i64) (.cons .bool (.cons (.int .i64) (.cons (.int .i64) (.cons .bool (.cons (.int .i64) (.cons .bool (.cons (.nums .u64) (.int .i64)))))))))) (.cons (.int .u64) (.int .i64))) []) : Option (TyR (.int .i64) []) := f23 x.1.1 x.1.2.1 x.1.2.2.1 x.1.2.2.2.1 x.1.2.2.2.2.1 x.1.2.2.2.2.2.1 x.1.2.2.2.2.2.2.1 x.1.2.2.2.2.2.2.2.1 x.1.2.2.2.2.2.2.2.2 x.2.1 x.2.2
theorem f23_ok : EntOK Try.prog 23 (ent (.cons (.agg (.cons (.int .i64) (.cons .bool (.cons (.int .i64) (.cons (.int .i64) (.cons .bool (.cons (.int .i64) (.cons .bool (.cons (.nums .u64) (.int .i64)))))))))) (.cons (.int .u64) (.int .i64))) [] (.int .i64) [] f23W) :=
  ent_ok f23F f23C_ok (hp := []) (fn := Try.f23) (by kernel_rfl) f23j3_t fun (x : ((Int × Bool × Int × Int × Bool × Int × Bool × List Int × Int) × Int × Int)) => f23_b x.1.1 x.1.2.1 x.1.2.2.1 x.1.2.2.2.1 x.1.2.2.2.2.1 x.1.2.2.2.2.2.1 x.1.2.2.2.2.2.2.1 x.1.2.2.2.2.2.2.2.1 x.1.2.2.2.2.2.2.2.2 x.2.1 x.2.2

/-! f15: passkey/passkeyref29.Registers -/
noncomputable def f15j6p : SP := { n := 51, ix := [3, 4, 5, 6], p := (.cons (.int .i64) (.cons (.ptr 0 0) (.cons (.ptr 1 0) (.ptr 2 0)))), hp := [(.cells (.cons (.int .i64) (.cons .bool (.cons (.int .i64) (.cons (.int .i64) (.cons .bool (.cons (.int .i64) (.cons .bool (.cons (.nums .u64) (.int .i64)))))))))), (.cells (.cons (.int .u64) (.cons (.int .i64) (.cons (.int .i64) (.cons (.int .i64) (.cons (.int .u64) (.cons (.nums .u8) (.cons (.int .i64) (.int .u64))))))))), (.cells (.cons (.int .i64) (.cons (.int .i64) (.int .i64))))] }
noncomputable def f15j6x : List (Ex × SP) := [(.ret, { n := 51, ix := [8], p := (.int .i64) })]
noncomputable def f15j6 : ((Int × Unit × Unit × Unit) × ((Int × Bool × Int × Int × Bool × Int × Bool × List Int × Int) × (Int × Int × Int × Int × Int × List Int × Int × Int) × (Int × Int × Int))) → Option Int := fun s => match s with
  | ((a1, (), (), ()), ((a2, a3, a4, a5, a6, a7, a8, a9, a10), (a11, a12, a13, a14, a15, a16, a17, a18), (a19, a20, a21))) =>
    cond (a19 != 2) (
      some 0) (
      cond (a1 == 0) (
        some 38) (
        Option.bind (f23 a2 a3 a4 a5 a6 a7 a8 a9 a10 a15 a1) fun y1 =>
        some y1))
noncomputable def f15 (a1 : Int) (a2 : Bool) (a3 : Int) (a4 : Int) (a5 : Bool) (a6 : Int) (a7 : Bool) (a8 : List Int) (a9 : Int) (a10 : Int) (a11 : Int) (a12 : Int) (a13 : Int) (a14 : Int) (a15 : List Int) (a16 : Int) (a17 : Int) (a18 : Int) (a19 : Int) (a20 : Int) (a21 : Int) : Option Int :=
  Option.bind (f22 a1 a2 a3 a4 a5 a6 a7 a8 a9 a11) fun y1 =>
  cond (y1 != 0) (
    some y1) (
    cond (decide (a16 < a3)) (
      some 40) (
      cond ((bitsI .and .i64 a11 8) != 0) (
        cond (!a5) (
          some 40) (
          cond (a18 != a6) (
            some 40) (
            Option.bind (f15j6 ((a21, (), (), ()), ((a1, a2, a3, a4, a5, a6, a7, a8, a9), (a10, a11, a12, a13, a14, a15, a16, a17), (a18, a19, a20)))) fun y2 =>
            some y2))) (
        cond (a18 != a6) (
          some 40) (
          Option.bind (f15j6 ((a21, (), (), ()), ((a1, a2, a3, a4, a5, a6, a7, a8, a9), (a10, a11, a12, a13, a14, a15, a16, a17), (a18, a19, a20)))) fun y3 =>
          some y3))))
noncomputable def f15C : Cal := tbl [(22, (ent (.cons (.agg (.cons (.int .i64) (.cons .bool (.cons (.int .i64) (.cons (.int .i64) (.cons .bool (.cons (.int .i64) (.cons .bool (.cons (.nums .u64) (.int .i64)))))))))) (.int .i64)) [] (.int .i64) [] f22W)), (23, (ent (.cons (.agg (.cons (.int .i64) (.cons .bool (.cons (.int .i64) (.cons (.int .i64) (.cons .bool (.cons (.int .i64) (.cons .bool (.cons (.nums .u64) (.int .i64)))))))))) (.cons (.int .u64) (.int .i64))) [] (.int .i64) [] f23W))]
theorem f15C_ok : CalOK Try.prog f15C ∧ CalNt f15C := tbl_ok (by
  intro p hp
  simp only [List.mem_cons, List.not_mem_nil, or_false] at hp
  rcases hp with rfl | rfl
  · exact f22_ok
  · exact f23_ok)
noncomputable def f15F : FH := { join := [(6, { keep := [3, 4, 5, 6] })] }
theorem f15j6_s (a1 : Int) (a2 : Int) (a3 : Bool) (a4 : Int) (a5 : Int) (a6 : Bool) (a7 : Int) (a8 : Bool) (a9 : List Int) (a10 : Int) (a11 : Int) (a12 : Int) (a13 : Int) (a14 : Int) (a15 : Int) (a16 : List Int) (a17 : Int) (a18 : Int) (a19 : Int) (a20 : Int) (a21 : Int) : joinC Try.prog f15C f15F [] [] 0 ((joinsAt 6 (codeOf Try.f15)).headD .skip) f15j6p f15j6x { keep := [8] } ((a1, (), (), ()), ((a2, a3, a4, a5, a6, a7, a8, a9, a10), (a11, a12, a13, a14, a15, a16, a17, a18), (a19, a20, a21))) _ some = f15j6 ((a1, (), (), ()), ((a2, a3, a4, a5, a6, a7, a8, a9, a10), (a11, a12, a13, a14, a15, a16, a17, a18), (a19, a20, a21))) := by kernel_rfl
theorem f15j6_t : ToldC Try.prog 0 (codeOf Try.f15) [] ((6, toldJ f15j6p f15j6x f15j6) :: []) :=
  ToldC.join f15F 0 (ToldC.nil 0) f15C_ok 6 ((joinsAt 6 (codeOf Try.f15)).headD .skip) (by kernel_rfl) (p := f15j6p) (px := f15j6x) (g := f15j6) (ho := { keep := [8] }) fun (x : ((Int × Unit × Unit × Unit) × ((Int × Bool × Int × Int × Bool × Int × Bool × List Int × Int) × (Int × Int × Int × Int × Int × List Int × Int × Int) × (Int × Int × Int)))) => f15j6_s x.1.1 x.2.1.1 x.2.1.2.1 x.2.1.2.2.1 x.2.1.2.2.2.1 x.2.1.2.2.2.2.1 x.2.1.2.2.2.2.2.1 x.2.1.2.2.2.2.2.2.1 x.2.1.2.2.2.2.2.2.2.1 x.2.1.2.2.2.2.2.2.2.2 x.2.2.1.1 x.2.2.1.2.1 x.2.2.1.2.2.1 x.2.2.1.2.2.2.1 x.2.2.1.2.2.2.2.1 x.2.2.1.2.2.2.2.2.1 x.2.2.1.2.2.2.2.2.2.1 x.2.2.1.2.2.2.2.2.2.2 x.2.2.2.1 x.2.2.2.2.1 x.2.2.2.2.2
theorem f15_b (a1 : Int) (a2 : Bool) (a3 : Int) (a4 : Int) (a5 : Bool) (a6 : Int) (a7 : Bool) (a8 : List Int) (a9 : Int) (a10 : Int) (a11 : Int) (a12 : Int) (a13 : Int) (a14 : Int) (a15 : List Int) (a16 : Int) (a17 : Int) (a18 : Int) (a19 : Int) (a20 : Int) (a21 : Int) : bodyC Try.prog f15C f15F [] ((6, toldJ f15j6p f15j6x f15j6) :: []) { keep := [] } 15 (.cons (.agg (.cons (.int .i64) (.cons .bool (.cons (.int .i64) (.cons (.int .i64) (.cons .bool (.cons (.int .i64) (.cons .bool (.cons (.nums .u64) (.int .i64)))))))))) (.cons (.agg (.cons (.int .u64) (.cons (.int .i64) (.cons (.int .i64) (.cons (.int .i64) (.cons (.int .u64) (.cons (.nums .u8) (.cons (.int .i64) (.int .u64))))))))) (.cons (.agg (.cons (.int .i64) (.cons (.int .i64) (.int .i64)))) (.int .i64)))) [] (.int .i64) [] ((a1, a2, a3, a4, a5, a6, a7, a8, a9), (a10, a11, a12, a13, a14, a15, a16, a17), (a18, a19, a20), a21) _ some = f15 a1 a2 a3 a4 a5 a6 a7 a8 a9 a10 a11 a12 a13 a14 a15 a16 a17 a18 a19 a20 a21 := by kernel_rfl
noncomputable def f15W (x : TyA (.cons (.agg (.cons (.int .i64) (.cons .bool (.cons (.int .i64) (.cons (.int .i64) (.cons .bool (.cons (.int .i64) (.cons .bool (.cons (.nums .u64) (.int .i64)))))))))) (.cons (.agg (.cons (.int .u64) (.cons (.int .i64) (.cons (.int .i64) (.cons (.int .i64) (.cons (.int .u64) (.cons (.nums .u8) (.cons (.int .i64) (.int .u64))))))))) (.cons (.agg (.cons (.int .i64) (.cons (.int .i64) (.int .i64)))) (.int .i64)))) []) : Option (TyR (.int .i64) []) := f15 x.1.1 x.1.2.1 x.1.2.2.1 x.1.2.2.2.1 x.1.2.2.2.2.1 x.1.2.2.2.2.2.1 x.1.2.2.2.2.2.2.1 x.1.2.2.2.2.2.2.2.1 x.1.2.2.2.2.2.2.2.2 x.2.1.1 x.2.1.2.1 x.2.1.2.2.1 x.2.1.2.2.2.1 x.2.1.2.2.2.2.1 x.2.1.2.2.2.2.2.1 x.2.1.2.2.2.2.2.2.1 x.2.1.2.2.2.2.2.2.2 x.2.2.1.1 x.2.2.1.2.1 x.2.2.1.2.2 x.2.2.2
theorem f15_ok : EntOK Try.prog 15 (ent (.cons (.agg (.cons (.int .i64) (.cons .bool (.cons (.int .i64) (.cons (.int .i64) (.cons .bool (.cons (.int .i64) (.cons .bool (.cons (.nums .u64) (.int .i64)))))))))) (.cons (.agg (.cons (.int .u64) (.cons (.int .i64) (.cons (.int .i64) (.cons (.int .i64) (.cons (.int .u64) (.cons (.nums .u8) (.cons (.int .i64) (.int .u64))))))))) (.cons (.agg (.cons (.int .i64) (.cons (.int .i64) (.int .i64)))) (.int .i64)))) [] (.int .i64) [] f15W) :=
  ent_ok f15F f15C_ok (hp := []) (fn := Try.f15) (by kernel_rfl) f15j6_t fun (x : ((Int × Bool × Int × Int × Bool × Int × Bool × List Int × Int) × (Int × Int × Int × Int × Int × List Int × Int × Int) × (Int × Int × Int) × Int)) => f15_b x.1.1 x.1.2.1 x.1.2.2.1 x.1.2.2.2.1 x.1.2.2.2.2.1 x.1.2.2.2.2.2.1 x.1.2.2.2.2.2.2.1 x.1.2.2.2.2.2.2.2.1 x.1.2.2.2.2.2.2.2.2 x.2.1.1 x.2.1.2.1 x.2.1.2.2.1 x.2.1.2.2.2.1 x.2.1.2.2.2.2.1 x.2.1.2.2.2.2.2.1 x.2.1.2.2.2.2.2.2.1 x.2.1.2.2.2.2.2.2.2 x.2.2.1.1 x.2.2.1.2.1 x.2.2.1.2.2 x.2.2.2

/-! f17: passkey/passkeyref29.SignsIn -/
noncomputable def f17 (a1 : Int) (a2 : Bool) (a3 : Int) (a4 : Int) (a5 : Bool) (a6 : Int) (a7 : Bool) (a8 : List Int) (a9 : Int) (a10 : Int) (a11 : Int) (a12 : Int) (a13 : Int) (a14 : Int) (a15 : List Int) (a16 : Int) (a17 : Int) (a18 : List Int) (a19 : Int) (a20 : Int) (a21 : Int) (a22 : Int) (a23 : Bool) (a24 : Int) (a25 : List PD) (a26 : Bool) (a27 : Int) (a28 : Int) (a29 : Int) : Option Int :=
  Option.bind (f22 a1 a2 a3 a4 a5 a6 a7 a8 a9 a11) fun y1 =>
  cond (y1 != 0) (
    some y1) (
    cond (!(((bitsI .and .i64 a11 8) != 0) == a23)) (
      some 40) (
      cond (a21 == 0) (
        some 0) (
        Option.bind (f23 a1 a2 a3 a4 a5 a6 a7 a8 a9 a21 a29) fun y2 =>
        some y2)))
noncomputable def f17C : Cal := tbl [(22, (ent (.cons (.agg (.cons (.int .i64) (.cons .bool (.cons (.int .i64) (.cons (.int .i64) (.cons .bool (.cons (.int .i64) (.cons .bool (.cons (.nums .u64) (.int .i64)))))))))) (.int .i64)) [] (.int .i64) [] f22W)), (23, (ent (.cons (.agg (.cons (.int .i64) (.cons .bool (.cons (.int .i64) (.cons (.int .i64) (.cons .bool (.cons (.int .i64) (.cons .bool (.cons (.nums .u64) (.int .i64)))))))))) (.cons (.int .u64) (.int .i64))) [] (.int .i64) [] f23W))]
theorem f17C_ok : CalOK Try.prog f17C ∧ CalNt f17C := tbl_ok (by
  intro p hp
  simp only [List.mem_cons, List.not_mem_nil, or_false] at hp
  rcases hp with rfl | rfl
  · exact f22_ok
  · exact f23_ok)
noncomputable def f17F : FH := {}
theorem f17_b (a1 : Int) (a2 : Bool) (a3 : Int) (a4 : Int) (a5 : Bool) (a6 : Int) (a7 : Bool) (a8 : List Int) (a9 : Int) (a10 : Int) (a11 : Int) (a12 : Int) (a13 : Int) (a14 : Int) (a15 : List Int) (a16 : Int) (a17 : Int) (a18 : List Int) (a19 : Int) (a20 : Int) (a21 : Int) (a22 : Int) (a23 : Bool) (a24 : Int) (a25 : List PD) (a26 : Bool) (a27 : Int) (a28 : Int) (a29 : Int) : bodyC Try.prog f17C f17F [] [] { keep := [] } 17 (.cons (.agg (.cons (.int .i64) (.cons .bool (.cons (.int .i64) (.cons (.int .i64) (.cons .bool (.cons (.int .i64) (.cons .bool (.cons (.nums .u64) (.int .i64)))))))))) (.cons (.agg (.cons (.int .u64) (.cons (.int .i64) (.cons (.int .i64) (.cons (.int .i64) (.cons (.int .u64) (.cons (.nums .u8) (.cons (.int .i64) (.int .u64))))))))) (.cons (.agg (.cons (.nums .u8) (.cons (.int .i64) (.cons (.int .u64) (.cons (.int .u64) (.cons (.int .i64) (.cons .bool (.cons (.int .u64) (.cons (.sl 2) (.cons .bool (.cons (.int .i64) (.int .i64)))))))))))) (.int .i64)))) [] (.int .i64) [] ((a1, a2, a3, a4, a5, a6, a7, a8, a9), (a10, a11, a12, a13, a14, a15, a16, a17), (a18, a19, a20, a21, a22, a23, a24, a25, a26, a27, a28), a29) _ some = f17 a1 a2 a3 a4 a5 a6 a7 a8 a9 a10 a11 a12 a13 a14 a15 a16 a17 a18 a19 a20 a21 a22 a23 a24 a25 a26 a27 a28 a29 := by kernel_rfl
noncomputable def f17W (x : TyA (.cons (.agg (.cons (.int .i64) (.cons .bool (.cons (.int .i64) (.cons (.int .i64) (.cons .bool (.cons (.int .i64) (.cons .bool (.cons (.nums .u64) (.int .i64)))))))))) (.cons (.agg (.cons (.int .u64) (.cons (.int .i64) (.cons (.int .i64) (.cons (.int .i64) (.cons (.int .u64) (.cons (.nums .u8) (.cons (.int .i64) (.int .u64))))))))) (.cons (.agg (.cons (.nums .u8) (.cons (.int .i64) (.cons (.int .u64) (.cons (.int .u64) (.cons (.int .i64) (.cons .bool (.cons (.int .u64) (.cons (.sl 2) (.cons .bool (.cons (.int .i64) (.int .i64)))))))))))) (.int .i64)))) []) : Option (TyR (.int .i64) []) := f17 x.1.1 x.1.2.1 x.1.2.2.1 x.1.2.2.2.1 x.1.2.2.2.2.1 x.1.2.2.2.2.2.1 x.1.2.2.2.2.2.2.1 x.1.2.2.2.2.2.2.2.1 x.1.2.2.2.2.2.2.2.2 x.2.1.1 x.2.1.2.1 x.2.1.2.2.1 x.2.1.2.2.2.1 x.2.1.2.2.2.2.1 x.2.1.2.2.2.2.2.1 x.2.1.2.2.2.2.2.2.1 x.2.1.2.2.2.2.2.2.2 x.2.2.1.1 x.2.2.1.2.1 x.2.2.1.2.2.1 x.2.2.1.2.2.2.1 x.2.2.1.2.2.2.2.1 x.2.2.1.2.2.2.2.2.1 x.2.2.1.2.2.2.2.2.2.1 x.2.2.1.2.2.2.2.2.2.2.1 x.2.2.1.2.2.2.2.2.2.2.2.1 x.2.2.1.2.2.2.2.2.2.2.2.2.1 x.2.2.1.2.2.2.2.2.2.2.2.2.2 x.2.2.2
theorem f17_ok : EntOK Try.prog 17 (ent (.cons (.agg (.cons (.int .i64) (.cons .bool (.cons (.int .i64) (.cons (.int .i64) (.cons .bool (.cons (.int .i64) (.cons .bool (.cons (.nums .u64) (.int .i64)))))))))) (.cons (.agg (.cons (.int .u64) (.cons (.int .i64) (.cons (.int .i64) (.cons (.int .i64) (.cons (.int .u64) (.cons (.nums .u8) (.cons (.int .i64) (.int .u64))))))))) (.cons (.agg (.cons (.nums .u8) (.cons (.int .i64) (.cons (.int .u64) (.cons (.int .u64) (.cons (.int .i64) (.cons .bool (.cons (.int .u64) (.cons (.sl 2) (.cons .bool (.cons (.int .i64) (.int .i64)))))))))))) (.int .i64)))) [] (.int .i64) [] f17W) :=
  ent_ok f17F f17C_ok (hp := []) (fn := Try.f17) (by kernel_rfl) (ToldC.nil 0) fun (x : ((Int × Bool × Int × Int × Bool × Int × Bool × List Int × Int) × (Int × Int × Int × Int × Int × List Int × Int × Int) × (List Int × Int × Int × Int × Int × Bool × Int × List PD × Bool × Int × Int) × Int)) => f17_b x.1.1 x.1.2.1 x.1.2.2.1 x.1.2.2.2.1 x.1.2.2.2.2.1 x.1.2.2.2.2.2.1 x.1.2.2.2.2.2.2.1 x.1.2.2.2.2.2.2.2.1 x.1.2.2.2.2.2.2.2.2 x.2.1.1 x.2.1.2.1 x.2.1.2.2.1 x.2.1.2.2.2.1 x.2.1.2.2.2.2.1 x.2.1.2.2.2.2.2.1 x.2.1.2.2.2.2.2.2.1 x.2.1.2.2.2.2.2.2.2 x.2.2.1.1 x.2.2.1.2.1 x.2.2.1.2.2.1 x.2.2.1.2.2.2.1 x.2.2.1.2.2.2.2.1 x.2.2.1.2.2.2.2.2.1 x.2.2.1.2.2.2.2.2.2.1 x.2.2.1.2.2.2.2.2.2.2.1 x.2.2.1.2.2.2.2.2.2.2.2.1 x.2.2.1.2.2.2.2.2.2.2.2.2.1 x.2.2.1.2.2.2.2.2.2.2.2.2.2 x.2.2.2

/-! f4: passkey/passkeylaw31.PolicyDecides -/
noncomputable def f4 (a1 : Int) (a2 : Bool) (a3 : Int) (a4 : Int) (a5 : Bool) (a6 : Int) (a7 : Bool) (a8 : List Int) (a9 : Int) (a10 : Int) (a11 : Int) (a12 : Int) (a13 : Int) (a14 : Int) (a15 : List Int) (a16 : Int) (a17 : Int) (a18 : Int) (a19 : Int) (a20 : Int) (a21 : List Int) (a22 : Int) (a23 : Int) (a24 : Int) (a25 : Int) (a26 : Bool) (a27 : Int) (a28 : List PD) (a29 : Bool) (a30 : Int) (a31 : Int) (a32 : Int) (a33 : List Int) : Option Bool :=
  cond (decide ((((a8.length) : Nat) : Int) > 40)) (
    Option.bind f7 fun y1 =>
    some y1) (
    Option.bind (f8 a33) fun y2 =>
    Option.bind (f9 y2.2.1 y2.2.2) fun y3 =>
    Option.bind (f13 y3.2.1 y3.2.2) fun y4 =>
    Option.bind (f10 8 y4.2.1 y4.2.2) fun y5 =>
    Option.bind (f10 2 y5.2.1 y5.2.2) fun y6 =>
    Option.bind (f14 a1 a2 a3 a4 a5 a6 a7 a8 a9 a10 a11 a12 a13 a14 a15 a16 a17 a18 a19 a20 a32) fun y7 =>
    Option.bind (f15 a1 a2 a3 a4 a5 a6 a7 a8 a9 a10 a11 a12 a13 a14 a15 a16 a17 a18 a19 a20 a32) fun y8 =>
    cond (y7 == y8) (
      Option.bind (f14 y3.1.1 y3.1.2.1 y3.1.2.2.1 y3.1.2.2.2.1 y3.1.2.2.2.2.1 y3.1.2.2.2.2.2.1 y3.1.2.2.2.2.2.2.1 y3.1.2.2.2.2.2.2.2.1 y3.1.2.2.2.2.2.2.2.2 y4.1.1.1 y4.1.1.2.1 y4.1.1.2.2.1 y4.1.1.2.2.2.1 y4.1.1.2.2.2.2.1 y4.1.1.2.2.2.2.2.1 y4.1.1.2.2.2.2.2.2.1 y4.1.1.2.2.2.2.2.2.2 y4.1.2.1.1 y4.1.2.1.2.1 y4.1.2.1.2.2 y4.1.2.2) fun y9 =>
      Option.bind (f15 y3.1.1 y3.1.2.1 y3.1.2.2.1 y3.1.2.2.2.1 y3.1.2.2.2.2.1 y3.1.2.2.2.2.2.1 y3.1.2.2.2.2.2.2.1 y3.1.2.2.2.2.2.2.2.1 y3.1.2.2.2.2.2.2.2.2 y4.1.1.1 y4.1.1.2.1 y4.1.1.2.2.1 y4.1.1.2.2.2.1 y4.1.1.2.2.2.2.1 y4.1.1.2.2.2.2.2.1 y4.1.1.2.2.2.2.2.2.1 y4.1.1.2.2.2.2.2.2.2 y4.1.2.1.1 y4.1.2.1.2.1 y4.1.2.1.2.2 y4.1.2.2) fun y10 =>
      cond (y9 == y10) (
        Option.bind (f16 a1 a2 a3 a4 a5 a6 a7 a8 a9 a10 a11 a12 a13 a14 a15 a16 a17 a21 a22 a23 a24 a25 a26 a27 a28 a29 a30 a31 a32) fun y11 =>
        Option.bind (f17 a1 a2 a3 a4 a5 a6 a7 a8 a9 a10 a11 a12 a13 a14 a15 a16 a17 a21 a22 a23 a24 a25 a26 a27 a28 a29 a30 a31 a32) fun y12 =>
        cond (y11 == y12) (
          Option.bind (f16 y3.1.1 y3.1.2.1 y3.1.2.2.1 y3.1.2.2.2.1 y3.1.2.2.2.2.1 y3.1.2.2.2.2.2.1 y3.1.2.2.2.2.2.2.1 y3.1.2.2.2.2.2.2.2.1 y3.1.2.2.2.2.2.2.2.2 y4.1.1.1 y4.1.1.2.1 y4.1.1.2.2.1 y4.1.1.2.2.2.1 y4.1.1.2.2.2.2.1 y4.1.1.2.2.2.2.2.1 y4.1.1.2.2.2.2.2.2.1 y4.1.1.2.2.2.2.2.2.2 [] 0 0 (IntKind.u64.wrap y5.1) 0 (y6.1 == 1) 0 [] false 0 0 y4.1.2.2) fun y13 =>
          Option.bind (f17 y3.1.1 y3.1.2.1 y3.1.2.2.1 y3.1.2.2.2.1 y3.1.2.2.2.2.1 y3.1.2.2.2.2.2.1 y3.1.2.2.2.2.2.2.1 y3.1.2.2.2.2.2.2.2.1 y3.1.2.2.2.2.2.2.2.2 y4.1.1.1 y4.1.1.2.1 y4.1.1.2.2.1 y4.1.1.2.2.2.1 y4.1.1.2.2.2.2.1 y4.1.1.2.2.2.2.2.1 y4.1.1.2.2.2.2.2.2.1 y4.1.1.2.2.2.2.2.2.2 [] 0 0 (IntKind.u64.wrap y5.1) 0 (y6.1 == 1) 0 [] false 0 0 y4.1.2.2) fun y14 =>
          cond (y13 == y14) (
            Option.bind f7 fun y15 =>
            some y15) (
            some false)) (
          some false)) (
        some false)) (
      some false))
noncomputable def f4C : Cal := tbl [(7, (ent .nil [] .bool [] f7W)), (8, (ent (.nums .i64) [] (.ptr 0 0) [(.cells (.cons (.nums .i64) (.int .i64)))] f8W)), (9, (ent (.ptr 0 0) [(.cells (.cons (.nums .i64) (.int .i64)))] (.agg (.cons (.int .i64) (.cons .bool (.cons (.int .i64) (.cons (.int .i64) (.cons .bool (.cons (.int .i64) (.cons .bool (.cons (.nums .u64) (.int .i64)))))))))) [(.cells (.cons (.nums .i64) (.int .i64)))] f9W)), (13, (ent (.ptr 0 0) [(.cells (.cons (.nums .i64) (.int .i64)))] (.tup (.cons (.agg (.cons (.int .u64) (.cons (.int .i64) (.cons (.int .i64) (.cons (.int .i64) (.cons (.int .u64) (.cons (.nums .u8) (.cons (.int .i64) (.int .u64))))))))) (.cons (.agg (.cons (.int .i64) (.cons (.int .i64) (.int .i64)))) (.int .i64)))) [(.cells (.cons (.nums .i64) (.int .i64)))] f13W)), (10, (ent (.cons (.ptr 0 0) (.int .i64)) [(.cells (.cons (.nums .i64) (.int .i64)))] (.int .i64) [(.cells (.cons (.nums .i64) (.int .i64)))] f10W)), (14, (ent (.cons (.agg (.cons (.int .i64) (.cons .bool (.cons (.int .i64) (.cons (.int .i64) (.cons .bool (.cons (.int .i64) (.cons .bool (.cons (.nums .u64) (.int .i64)))))))))) (.cons (.agg (.cons (.int .u64) (.cons (.int .i64) (.cons (.int .i64) (.cons (.int .i64) (.cons (.int .u64) (.cons (.nums .u8) (.cons (.int .i64) (.int .u64))))))))) (.cons (.agg (.cons (.int .i64) (.cons (.int .i64) (.int .i64)))) (.int .i64)))) [] (.int .i64) [] f14W)), (15, (ent (.cons (.agg (.cons (.int .i64) (.cons .bool (.cons (.int .i64) (.cons (.int .i64) (.cons .bool (.cons (.int .i64) (.cons .bool (.cons (.nums .u64) (.int .i64)))))))))) (.cons (.agg (.cons (.int .u64) (.cons (.int .i64) (.cons (.int .i64) (.cons (.int .i64) (.cons (.int .u64) (.cons (.nums .u8) (.cons (.int .i64) (.int .u64))))))))) (.cons (.agg (.cons (.int .i64) (.cons (.int .i64) (.int .i64)))) (.int .i64)))) [] (.int .i64) [] f15W)), (16, (ent (.cons (.agg (.cons (.int .i64) (.cons .bool (.cons (.int .i64) (.cons (.int .i64) (.cons .bool (.cons (.int .i64) (.cons .bool (.cons (.nums .u64) (.int .i64)))))))))) (.cons (.agg (.cons (.int .u64) (.cons (.int .i64) (.cons (.int .i64) (.cons (.int .i64) (.cons (.int .u64) (.cons (.nums .u8) (.cons (.int .i64) (.int .u64))))))))) (.cons (.agg (.cons (.nums .u8) (.cons (.int .i64) (.cons (.int .u64) (.cons (.int .u64) (.cons (.int .i64) (.cons .bool (.cons (.int .u64) (.cons (.sl 2) (.cons .bool (.cons (.int .i64) (.int .i64)))))))))))) (.int .i64)))) [] (.int .i64) [] f16W)), (17, (ent (.cons (.agg (.cons (.int .i64) (.cons .bool (.cons (.int .i64) (.cons (.int .i64) (.cons .bool (.cons (.int .i64) (.cons .bool (.cons (.nums .u64) (.int .i64)))))))))) (.cons (.agg (.cons (.int .u64) (.cons (.int .i64) (.cons (.int .i64) (.cons (.int .i64) (.cons (.int .u64) (.cons (.nums .u8) (.cons (.int .i64) (.int .u64))))))))) (.cons (.agg (.cons (.nums .u8) (.cons (.int .i64) (.cons (.int .u64) (.cons (.int .u64) (.cons (.int .i64) (.cons .bool (.cons (.int .u64) (.cons (.sl 2) (.cons .bool (.cons (.int .i64) (.int .i64)))))))))))) (.int .i64)))) [] (.int .i64) [] f17W))]
theorem f4C_ok : CalOK Try.prog f4C ∧ CalNt f4C := tbl_ok (by
  intro p hp
  simp only [List.mem_cons, List.not_mem_nil, or_false] at hp
  rcases hp with rfl | rfl | rfl | rfl | rfl | rfl | rfl | rfl | rfl
  · exact f7_ok
  · exact f8_ok
  · exact f9_ok
  · exact f13_ok
  · exact f10_ok
  · exact f14_ok
  · exact f15_ok
  · exact f16_ok
  · exact f17_ok)
noncomputable def f4F : FH := {}
theorem f4_b (a1 : Int) (a2 : Bool) (a3 : Int) (a4 : Int) (a5 : Bool) (a6 : Int) (a7 : Bool) (a8 : List Int) (a9 : Int) (a10 : Int) (a11 : Int) (a12 : Int) (a13 : Int) (a14 : Int) (a15 : List Int) (a16 : Int) (a17 : Int) (a18 : Int) (a19 : Int) (a20 : Int) (a21 : List Int) (a22 : Int) (a23 : Int) (a24 : Int) (a25 : Int) (a26 : Bool) (a27 : Int) (a28 : List PD) (a29 : Bool) (a30 : Int) (a31 : Int) (a32 : Int) (a33 : List Int) : bodyC Try.prog f4C f4F [] [] { keep := [] } 4 (.cons (.agg (.cons (.int .i64) (.cons .bool (.cons (.int .i64) (.cons (.int .i64) (.cons .bool (.cons (.int .i64) (.cons .bool (.cons (.nums .u64) (.int .i64)))))))))) (.cons (.agg (.cons (.int .u64) (.cons (.int .i64) (.cons (.int .i64) (.cons (.int .i64) (.cons (.int .u64) (.cons (.nums .u8) (.cons (.int .i64) (.int .u64))))))))) (.cons (.agg (.cons (.int .i64) (.cons (.int .i64) (.int .i64)))) (.cons (.agg (.cons (.nums .u8) (.cons (.int .i64) (.cons (.int .u64) (.cons (.int .u64) (.cons (.int .i64) (.cons .bool (.cons (.int .u64) (.cons (.sl 2) (.cons .bool (.cons (.int .i64) (.int .i64)))))))))))) (.cons (.int .i64) (.nums .i64)))))) [] .bool [] ((a1, a2, a3, a4, a5, a6, a7, a8, a9), (a10, a11, a12, a13, a14, a15, a16, a17), (a18, a19, a20), (a21, a22, a23, a24, a25, a26, a27, a28, a29, a30, a31), a32, a33) _ some = f4 a1 a2 a3 a4 a5 a6 a7 a8 a9 a10 a11 a12 a13 a14 a15 a16 a17 a18 a19 a20 a21 a22 a23 a24 a25 a26 a27 a28 a29 a30 a31 a32 a33 := by kernel_rfl
noncomputable def f4W (x : TyA (.cons (.agg (.cons (.int .i64) (.cons .bool (.cons (.int .i64) (.cons (.int .i64) (.cons .bool (.cons (.int .i64) (.cons .bool (.cons (.nums .u64) (.int .i64)))))))))) (.cons (.agg (.cons (.int .u64) (.cons (.int .i64) (.cons (.int .i64) (.cons (.int .i64) (.cons (.int .u64) (.cons (.nums .u8) (.cons (.int .i64) (.int .u64))))))))) (.cons (.agg (.cons (.int .i64) (.cons (.int .i64) (.int .i64)))) (.cons (.agg (.cons (.nums .u8) (.cons (.int .i64) (.cons (.int .u64) (.cons (.int .u64) (.cons (.int .i64) (.cons .bool (.cons (.int .u64) (.cons (.sl 2) (.cons .bool (.cons (.int .i64) (.int .i64)))))))))))) (.cons (.int .i64) (.nums .i64)))))) []) : Option (TyR .bool []) := f4 x.1.1 x.1.2.1 x.1.2.2.1 x.1.2.2.2.1 x.1.2.2.2.2.1 x.1.2.2.2.2.2.1 x.1.2.2.2.2.2.2.1 x.1.2.2.2.2.2.2.2.1 x.1.2.2.2.2.2.2.2.2 x.2.1.1 x.2.1.2.1 x.2.1.2.2.1 x.2.1.2.2.2.1 x.2.1.2.2.2.2.1 x.2.1.2.2.2.2.2.1 x.2.1.2.2.2.2.2.2.1 x.2.1.2.2.2.2.2.2.2 x.2.2.1.1 x.2.2.1.2.1 x.2.2.1.2.2 x.2.2.2.1.1 x.2.2.2.1.2.1 x.2.2.2.1.2.2.1 x.2.2.2.1.2.2.2.1 x.2.2.2.1.2.2.2.2.1 x.2.2.2.1.2.2.2.2.2.1 x.2.2.2.1.2.2.2.2.2.2.1 x.2.2.2.1.2.2.2.2.2.2.2.1 x.2.2.2.1.2.2.2.2.2.2.2.2.1 x.2.2.2.1.2.2.2.2.2.2.2.2.2.1 x.2.2.2.1.2.2.2.2.2.2.2.2.2.2 x.2.2.2.2.1 x.2.2.2.2.2
theorem f4_ok : EntOK Try.prog 4 (ent (.cons (.agg (.cons (.int .i64) (.cons .bool (.cons (.int .i64) (.cons (.int .i64) (.cons .bool (.cons (.int .i64) (.cons .bool (.cons (.nums .u64) (.int .i64)))))))))) (.cons (.agg (.cons (.int .u64) (.cons (.int .i64) (.cons (.int .i64) (.cons (.int .i64) (.cons (.int .u64) (.cons (.nums .u8) (.cons (.int .i64) (.int .u64))))))))) (.cons (.agg (.cons (.int .i64) (.cons (.int .i64) (.int .i64)))) (.cons (.agg (.cons (.nums .u8) (.cons (.int .i64) (.cons (.int .u64) (.cons (.int .u64) (.cons (.int .i64) (.cons .bool (.cons (.int .u64) (.cons (.sl 2) (.cons .bool (.cons (.int .i64) (.int .i64)))))))))))) (.cons (.int .i64) (.nums .i64)))))) [] .bool [] f4W) :=
  ent_ok f4F f4C_ok (hp := []) (fn := Try.f4) (by kernel_rfl) (ToldC.nil 0) fun (x : ((Int × Bool × Int × Int × Bool × Int × Bool × List Int × Int) × (Int × Int × Int × Int × Int × List Int × Int × Int) × (Int × Int × Int) × (List Int × Int × Int × Int × Int × Bool × Int × List PD × Bool × Int × Int) × Int × List Int)) => f4_b x.1.1 x.1.2.1 x.1.2.2.1 x.1.2.2.2.1 x.1.2.2.2.2.1 x.1.2.2.2.2.2.1 x.1.2.2.2.2.2.2.1 x.1.2.2.2.2.2.2.2.1 x.1.2.2.2.2.2.2.2.2 x.2.1.1 x.2.1.2.1 x.2.1.2.2.1 x.2.1.2.2.2.1 x.2.1.2.2.2.2.1 x.2.1.2.2.2.2.2.1 x.2.1.2.2.2.2.2.2.1 x.2.1.2.2.2.2.2.2.2 x.2.2.1.1 x.2.2.1.2.1 x.2.2.1.2.2 x.2.2.2.1.1 x.2.2.2.1.2.1 x.2.2.2.1.2.2.1 x.2.2.2.1.2.2.2.1 x.2.2.2.1.2.2.2.2.1 x.2.2.2.1.2.2.2.2.2.1 x.2.2.2.1.2.2.2.2.2.2.1 x.2.2.2.1.2.2.2.2.2.2.2.1 x.2.2.2.1.2.2.2.2.2.2.2.2.1 x.2.2.2.1.2.2.2.2.2.2.2.2.2.1 x.2.2.2.1.2.2.2.2.2.2.2.2.2.2 x.2.2.2.2.1 x.2.2.2.2.2

/-! f5: passkey/passkeylaw31.PolicyWeaker -/
noncomputable def f5j17p : SP := { n := 97, ix := [], p := .nil }
noncomputable def f5j17x : List (Ex × SP) := [(.ret, { n := 97, ix := [6], p := .bool })]
noncomputable def f5j17 : Unit → Option Bool := fun s => match s with
  | () =>
    Option.bind f7 fun y1 =>
    some y1
noncomputable def f5j15p : SP := { n := 97, ix := [8, 9, 10, 11, 13, 14], p := (.cons (.ptr 0 0) (.cons (.ptr 1 0) (.cons (.ptr 2 0) (.cons (.int .i64) (.cons (.ptr 3 0) (.ptr 4 0)))))), hp := [(.cells (.cons (.int .i64) (.cons .bool (.cons (.int .i64) (.cons (.int .i64) (.cons .bool (.cons (.int .i64) (.cons .bool (.cons (.nums .u64) (.int .i64)))))))))), (.cells (.cons (.int .u64) (.cons (.int .i64) (.cons (.int .i64) (.cons (.int .i64) (.cons (.int .u64) (.cons (.nums .u8) (.cons (.int .i64) (.int .u64))))))))), (.cells (.cons (.int .i64) (.cons (.int .i64) (.int .i64)))), (.cells (.cons (.int .i64) (.cons .bool (.cons (.int .i64) (.cons (.int .i64) (.cons .bool (.cons (.int .i64) (.cons .bool (.cons (.nums .u64) (.int .i64)))))))))), (.cells (.cons (.int .u64) (.cons (.int .i64) (.cons (.int .i64) (.cons (.int .i64) (.cons (.int .u64) (.cons (.nums .u8) (.cons (.int .i64) (.int .u64)))))))))] }
noncomputable def f5j15x : List (Ex × SP) := [(.ret, { n := 97, ix := [6], p := .bool })]
noncomputable def f5j15 : ((Unit × Unit × Unit × Int × Unit × Unit) × ((Int × Bool × Int × Int × Bool × Int × Bool × List Int × Int) × (Int × Int × Int × Int × Int × List Int × Int × Int) × (Int × Int × Int) × (Int × Bool × Int × Int × Bool × Int × Bool × List Int × Int) × (Int × Int × Int × Int × Int × List Int × Int × Int))) → Option Bool := fun s => match s with
  | (((), (), (), a1, (), ()), ((a2, a3, a4, a5, a6, a7, a8, a9, a10), (a11, a12, a13, a14, a15, a16, a17, a18), (a19, a20, a21), (a22, a23, a24, a25, a26, a27, a28, a29, a30), (a31, a32, a33, a34, a35, a36, a37, a38))) =>
    Option.bind (f14 a2 a3 a4 a5 a6 a7 a8 a9 a10 a11 a12 a13 a14 a15 a16 a17 a18 a19 a20 a21 a1) fun y1 =>
    cond (y1 == 0) (
      Option.bind (f14 a22 a23 a24 a25 a26 a27 a28 a29 a30 a11 a12 a13 a14 a15 a16 a17 a18 a19 a20 a21 a1) fun y2 =>
      cond (y2 != 0) (
        some false) (
        Option.bind (f14 a2 a3 a4 a5 a6 a7 a8 a9 a10 a31 a32 a33 a34 a35 a36 a37 a38 a19 a20 a21 a1) fun y3 =>
        cond (y3 != 0) (
          some false) (
          Option.bind (f5j17 ()) fun y4 =>
          some y4))) (
      Option.bind (f5j17 ()) fun y5 =>
      some y5)
noncomputable def f5 (a1 : List Int) (a2 : Int) (a3 : Int) : Option Bool :=
  Option.bind (f8 a1) fun y1 =>
  Option.bind (f9 y1.2.1 y1.2.2) fun y2 =>
  Option.bind (f13 y2.2.1 y2.2.2) fun y3 =>
  Option.bind (f10 8 y3.2.1 y3.2.2) fun y4 =>
  Option.bind (f10 2 y4.2.1 y4.2.2) fun y5 =>
  Option.bind (f16 y2.1.1 y2.1.2.1 y2.1.2.2.1 y2.1.2.2.2.1 y2.1.2.2.2.2.1 y2.1.2.2.2.2.2.1 y2.1.2.2.2.2.2.2.1 y2.1.2.2.2.2.2.2.2.1 y2.1.2.2.2.2.2.2.2.2 y3.1.1.1 y3.1.1.2.1 y3.1.1.2.2.1 y3.1.1.2.2.2.1 y3.1.1.2.2.2.2.1 y3.1.1.2.2.2.2.2.1 y3.1.1.2.2.2.2.2.2.1 y3.1.1.2.2.2.2.2.2.2 [] 0 0 (IntKind.u64.wrap y4.1) 0 (y5.1 == 1) 0 [] false 0 0 y3.1.2.2) fun y6 =>
  cond (y6 == 0) (
    Option.bind (f16 (if (IntKind.i64.wrap (Int.tmod a2 3)) < y2.1.1 then (IntKind.i64.wrap (Int.tmod a2 3)) else y2.1.1) y2.1.2.1 1 y2.1.2.2.2.1 true y2.1.2.2.2.2.2.1 true [] y2.1.2.2.2.2.2.2.2.2 y3.1.1.1 y3.1.1.2.1 y3.1.1.2.2.1 y3.1.1.2.2.2.1 y3.1.1.2.2.2.2.1 y3.1.1.2.2.2.2.2.1 y3.1.1.2.2.2.2.2.2.1 y3.1.1.2.2.2.2.2.2.2 [] 0 0 (IntKind.u64.wrap y4.1) 0 (y5.1 == 1) 0 [] false 0 0 y3.1.2.2) fun y7 =>
    cond (y7 != 0) (
      some false) (
      Option.bind (f16 y2.1.1 y2.1.2.1 y2.1.2.2.1 y2.1.2.2.2.1 y2.1.2.2.2.2.1 y2.1.2.2.2.2.2.1 y2.1.2.2.2.2.2.2.1 y2.1.2.2.2.2.2.2.2.1 y2.1.2.2.2.2.2.2.2.2 y3.1.1.1 (bitsI .or .i64 y3.1.1.2.1 (bitsI .and .i64 (IntKind.i64.wrap a3) 5)) y3.1.1.2.2.1 y3.1.1.2.2.2.1 y3.1.1.2.2.2.2.1 y3.1.1.2.2.2.2.2.1 y3.1.1.2.2.2.2.2.2.1 y3.1.1.2.2.2.2.2.2.2 [] 0 0 (IntKind.u64.wrap y4.1) 0 (y5.1 == 1) 0 [] false 0 0 y3.1.2.2) fun y8 =>
      cond (y8 != 0) (
        some false) (
        Option.bind (f5j15 (((), (), (), y3.1.2.2, (), ()), ((y2.1.1, y2.1.2.1, y2.1.2.2.1, y2.1.2.2.2.1, y2.1.2.2.2.2.1, y2.1.2.2.2.2.2.1, y2.1.2.2.2.2.2.2.1, y2.1.2.2.2.2.2.2.2.1, y2.1.2.2.2.2.2.2.2.2), (y3.1.1.1, y3.1.1.2.1, y3.1.1.2.2.1, y3.1.1.2.2.2.1, y3.1.1.2.2.2.2.1, y3.1.1.2.2.2.2.2.1, y3.1.1.2.2.2.2.2.2.1, y3.1.1.2.2.2.2.2.2.2), (y3.1.2.1.1, y3.1.2.1.2.1, y3.1.2.1.2.2), ((if (IntKind.i64.wrap (Int.tmod a2 3)) < y2.1.1 then (IntKind.i64.wrap (Int.tmod a2 3)) else y2.1.1), y2.1.2.1, 1, y2.1.2.2.2.1, true, y2.1.2.2.2.2.2.1, true, [], y2.1.2.2.2.2.2.2.2.2), (y3.1.1.1, (bitsI .or .i64 y3.1.1.2.1 (bitsI .and .i64 (IntKind.i64.wrap a3) 5)), y3.1.1.2.2.1, y3.1.1.2.2.2.1, y3.1.1.2.2.2.2.1, y3.1.1.2.2.2.2.2.1, y3.1.1.2.2.2.2.2.2.1, y3.1.1.2.2.2.2.2.2.2)))) fun y9 =>
        some y9))) (
    Option.bind (f5j15 (((), (), (), y3.1.2.2, (), ()), ((y2.1.1, y2.1.2.1, y2.1.2.2.1, y2.1.2.2.2.1, y2.1.2.2.2.2.1, y2.1.2.2.2.2.2.1, y2.1.2.2.2.2.2.2.1, y2.1.2.2.2.2.2.2.2.1, y2.1.2.2.2.2.2.2.2.2), (y3.1.1.1, y3.1.1.2.1, y3.1.1.2.2.1, y3.1.1.2.2.2.1, y3.1.1.2.2.2.2.1, y3.1.1.2.2.2.2.2.1, y3.1.1.2.2.2.2.2.2.1, y3.1.1.2.2.2.2.2.2.2), (y3.1.2.1.1, y3.1.2.1.2.1, y3.1.2.1.2.2), ((if (IntKind.i64.wrap (Int.tmod a2 3)) < y2.1.1 then (IntKind.i64.wrap (Int.tmod a2 3)) else y2.1.1), y2.1.2.1, 1, y2.1.2.2.2.1, true, y2.1.2.2.2.2.2.1, true, [], y2.1.2.2.2.2.2.2.2.2), (y3.1.1.1, (bitsI .or .i64 y3.1.1.2.1 (bitsI .and .i64 (IntKind.i64.wrap a3) 5)), y3.1.1.2.2.1, y3.1.1.2.2.2.1, y3.1.1.2.2.2.2.1, y3.1.1.2.2.2.2.2.1, y3.1.1.2.2.2.2.2.2.1, y3.1.1.2.2.2.2.2.2.2)))) fun y10 =>
    some y10)
noncomputable def f5C : Cal := tbl [(8, (ent (.nums .i64) [] (.ptr 0 0) [(.cells (.cons (.nums .i64) (.int .i64)))] f8W)), (9, (ent (.ptr 0 0) [(.cells (.cons (.nums .i64) (.int .i64)))] (.agg (.cons (.int .i64) (.cons .bool (.cons (.int .i64) (.cons (.int .i64) (.cons .bool (.cons (.int .i64) (.cons .bool (.cons (.nums .u64) (.int .i64)))))))))) [(.cells (.cons (.nums .i64) (.int .i64)))] f9W)), (13, (ent (.ptr 0 0) [(.cells (.cons (.nums .i64) (.int .i64)))] (.tup (.cons (.agg (.cons (.int .u64) (.cons (.int .i64) (.cons (.int .i64) (.cons (.int .i64) (.cons (.int .u64) (.cons (.nums .u8) (.cons (.int .i64) (.int .u64))))))))) (.cons (.agg (.cons (.int .i64) (.cons (.int .i64) (.int .i64)))) (.int .i64)))) [(.cells (.cons (.nums .i64) (.int .i64)))] f13W)), (10, (ent (.cons (.ptr 0 0) (.int .i64)) [(.cells (.cons (.nums .i64) (.int .i64)))] (.int .i64) [(.cells (.cons (.nums .i64) (.int .i64)))] f10W)), (16, (ent (.cons (.agg (.cons (.int .i64) (.cons .bool (.cons (.int .i64) (.cons (.int .i64) (.cons .bool (.cons (.int .i64) (.cons .bool (.cons (.nums .u64) (.int .i64)))))))))) (.cons (.agg (.cons (.int .u64) (.cons (.int .i64) (.cons (.int .i64) (.cons (.int .i64) (.cons (.int .u64) (.cons (.nums .u8) (.cons (.int .i64) (.int .u64))))))))) (.cons (.agg (.cons (.nums .u8) (.cons (.int .i64) (.cons (.int .u64) (.cons (.int .u64) (.cons (.int .i64) (.cons .bool (.cons (.int .u64) (.cons (.sl 2) (.cons .bool (.cons (.int .i64) (.int .i64)))))))))))) (.int .i64)))) [] (.int .i64) [] f16W)), (14, (ent (.cons (.agg (.cons (.int .i64) (.cons .bool (.cons (.int .i64) (.cons (.int .i64) (.cons .bool (.cons (.int .i64) (.cons .bool (.cons (.nums .u64) (.int .i64)))))))))) (.cons (.agg (.cons (.int .u64) (.cons (.int .i64) (.cons (.int .i64) (.cons (.int .i64) (.cons (.int .u64) (.cons (.nums .u8) (.cons (.int .i64) (.int .u64))))))))) (.cons (.agg (.cons (.int .i64) (.cons (.int .i64) (.int .i64)))) (.int .i64)))) [] (.int .i64) [] f14W)), (7, (ent .nil [] .bool [] f7W))]
theorem f5C_ok : CalOK Try.prog f5C ∧ CalNt f5C := tbl_ok (by
  intro p hp
  simp only [List.mem_cons, List.not_mem_nil, or_false] at hp
  rcases hp with rfl | rfl | rfl | rfl | rfl | rfl | rfl
  · exact f8_ok
  · exact f9_ok
  · exact f13_ok
  · exact f10_ok
  · exact f16_ok
  · exact f14_ok
  · exact f7_ok)
noncomputable def f5F : FH := { join := [(17, { keep := [] }), (15, { keep := [8, 9, 10, 11, 13, 14] })] }
theorem f5j17_s : joinC Try.prog f5C f5F [] [] 0 ((joinsAt 17 (codeOf Try.f5)).headD .skip) f5j17p f5j17x { keep := [6] } () _ some = f5j17 () := by kernel_rfl
theorem f5j17_t : ToldC Try.prog 0 (codeOf Try.f5) [] ((17, toldJ f5j17p f5j17x f5j17) :: []) :=
  ToldC.join f5F 0 (ToldC.nil 0) f5C_ok 17 ((joinsAt 17 (codeOf Try.f5)).headD .skip) (by kernel_rfl) (p := f5j17p) (px := f5j17x) (g := f5j17) (ho := { keep := [6] }) fun (x : Unit) => f5j17_s
theorem f5j15_s (a1 : Int) (a2 : Int) (a3 : Bool) (a4 : Int) (a5 : Int) (a6 : Bool) (a7 : Int) (a8 : Bool) (a9 : List Int) (a10 : Int) (a11 : Int) (a12 : Int) (a13 : Int) (a14 : Int) (a15 : Int) (a16 : List Int) (a17 : Int) (a18 : Int) (a19 : Int) (a20 : Int) (a21 : Int) (a22 : Int) (a23 : Bool) (a24 : Int) (a25 : Int) (a26 : Bool) (a27 : Int) (a28 : Bool) (a29 : List Int) (a30 : Int) (a31 : Int) (a32 : Int) (a33 : Int) (a34 : Int) (a35 : Int) (a36 : List Int) (a37 : Int) (a38 : Int) : joinC Try.prog f5C f5F [] ((17, toldJ f5j17p f5j17x f5j17) :: []) 0 ((joinsAt 15 (codeOf Try.f5)).headD .skip) f5j15p f5j15x { keep := [6] } (((), (), (), a1, (), ()), ((a2, a3, a4, a5, a6, a7, a8, a9, a10), (a11, a12, a13, a14, a15, a16, a17, a18), (a19, a20, a21), (a22, a23, a24, a25, a26, a27, a28, a29, a30), (a31, a32, a33, a34, a35, a36, a37, a38))) _ some = f5j15 (((), (), (), a1, (), ()), ((a2, a3, a4, a5, a6, a7, a8, a9, a10), (a11, a12, a13, a14, a15, a16, a17, a18), (a19, a20, a21), (a22, a23, a24, a25, a26, a27, a28, a29, a30), (a31, a32, a33, a34, a35, a36, a37, a38))) := by kernel_rfl
theorem f5j15_t : ToldC Try.prog 0 (codeOf Try.f5) [] ((15, toldJ f5j15p f5j15x f5j15) :: ((17, toldJ f5j17p f5j17x f5j17) :: [])) :=
  ToldC.join f5F 0 f5j17_t f5C_ok 15 ((joinsAt 15 (codeOf Try.f5)).headD .skip) (by kernel_rfl) (p := f5j15p) (px := f5j15x) (g := f5j15) (ho := { keep := [6] }) fun (x : ((Unit × Unit × Unit × Int × Unit × Unit) × ((Int × Bool × Int × Int × Bool × Int × Bool × List Int × Int) × (Int × Int × Int × Int × Int × List Int × Int × Int) × (Int × Int × Int) × (Int × Bool × Int × Int × Bool × Int × Bool × List Int × Int) × (Int × Int × Int × Int × Int × List Int × Int × Int)))) => f5j15_s x.1.2.2.2.1 x.2.1.1 x.2.1.2.1 x.2.1.2.2.1 x.2.1.2.2.2.1 x.2.1.2.2.2.2.1 x.2.1.2.2.2.2.2.1 x.2.1.2.2.2.2.2.2.1 x.2.1.2.2.2.2.2.2.2.1 x.2.1.2.2.2.2.2.2.2.2 x.2.2.1.1 x.2.2.1.2.1 x.2.2.1.2.2.1 x.2.2.1.2.2.2.1 x.2.2.1.2.2.2.2.1 x.2.2.1.2.2.2.2.2.1 x.2.2.1.2.2.2.2.2.2.1 x.2.2.1.2.2.2.2.2.2.2 x.2.2.2.1.1 x.2.2.2.1.2.1 x.2.2.2.1.2.2 x.2.2.2.2.1.1 x.2.2.2.2.1.2.1 x.2.2.2.2.1.2.2.1 x.2.2.2.2.1.2.2.2.1 x.2.2.2.2.1.2.2.2.2.1 x.2.2.2.2.1.2.2.2.2.2.1 x.2.2.2.2.1.2.2.2.2.2.2.1 x.2.2.2.2.1.2.2.2.2.2.2.2.1 x.2.2.2.2.1.2.2.2.2.2.2.2.2 x.2.2.2.2.2.1 x.2.2.2.2.2.2.1 x.2.2.2.2.2.2.2.1 x.2.2.2.2.2.2.2.2.1 x.2.2.2.2.2.2.2.2.2.1 x.2.2.2.2.2.2.2.2.2.2.1 x.2.2.2.2.2.2.2.2.2.2.2.1 x.2.2.2.2.2.2.2.2.2.2.2.2
theorem f5_b (a1 : List Int) (a2 : Int) (a3 : Int) : bodyC Try.prog f5C f5F [] ((15, toldJ f5j15p f5j15x f5j15) :: ((17, toldJ f5j17p f5j17x f5j17) :: [])) { keep := [] } 5 (.cons (.nums .i64) (.cons (.int .u8) (.int .u8))) [] .bool [] (a1, a2, a3) _ some = f5 a1 a2 a3 := by kernel_rfl
noncomputable def f5W (x : TyA (.cons (.nums .i64) (.cons (.int .u8) (.int .u8))) []) : Option (TyR .bool []) := f5 x.1 x.2.1 x.2.2
theorem f5_ok : EntOK Try.prog 5 (ent (.cons (.nums .i64) (.cons (.int .u8) (.int .u8))) [] .bool [] f5W) :=
  ent_ok f5F f5C_ok (hp := []) (fn := Try.f5) (by kernel_rfl) f5j15_t fun (x : (List Int × Int × Int)) => f5_b x.1 x.2.1 x.2.2

/-! f6: passkey/passkeylaw31.PolicyModels -/
noncomputable def f6j10p : SP := { n := 65, ix := [1, 8, 9, 12], p := (.cons (.int .u64) (.cons (.ptr 0 0) (.cons (.ptr 1 0) (.int .i64)))), hp := [(.cells (.cons (.int .i64) (.cons .bool (.cons (.int .i64) (.cons (.int .i64) (.cons .bool (.cons (.int .i64) (.cons .bool (.cons (.nums .u64) (.int .i64)))))))))), (.cells (.cons (.int .u64) (.cons (.int .i64) (.cons (.int .i64) (.cons (.int .i64) (.cons (.int .u64) (.cons (.nums .u8) (.cons (.int .i64) (.int .u64)))))))))] }
noncomputable def f6j10x : List (Ex × SP) := [(.ret, { n := 65, ix := [6], p := .bool })]
noncomputable def f6j10 : ((Int × Unit × Unit × Int) × ((Int × Bool × Int × Int × Bool × Int × Bool × List Int × Int) × (Int × Int × Int × Int × Int × List Int × Int × Int))) → Option Bool := fun s => match s with
  | ((a1, (), (), a2), ((a3, a4, a5, a6, a7, a8, a9, a10, a11), (a12, a13, a14, a15, a16, a17, a18, a19))) =>
    Option.bind (f14 a3 a4 a5 a6 a7 a8 a9 a10 a11 a12 a13 a14 a15 a16 a17 a18 a19 2 0 0 a2) fun y1 =>
    Option.bind (f16 a3 a4 a5 a6 a7 a8 a9 a10 a11 a12 a13 a14 a15 a16 a17 a18 a19 [] 0 0 a1 0 ((bitsI .and .i64 a13 8) != 0) 0 [] false 0 0 a2) fun y2 =>
    cond (y1 != 0) (
      cond (y2 != 0) (
        Option.bind f7 fun y3 =>
        some y3) (
        cond (a1 == 0) (
          Option.bind f7 fun y4 =>
          some y4) (
          some false))) (
      some false)
noncomputable def f6 (a1 : List Int) (a2 : Int) (a3 : Int) : Option Bool :=
  Option.bind (f8 a1) fun y1 =>
  Option.bind (f9 y1.2.1 y1.2.2) fun y2 =>
  Option.bind (f13 y2.2.1 y2.2.2) fun y3 =>
  cond (decide (a3 > 127)) (
    Option.bind (f6j10 ((a2, (), (), 1), ((y2.1.1, y2.1.2.1, y2.1.2.2.1, y2.1.2.2.2.1, y2.1.2.2.2.2.1, 2, y2.1.2.2.2.2.2.2.1, [a2], y2.1.2.2.2.2.2.2.2.2), (y3.1.1.1, y3.1.1.2.1, y3.1.1.2.2.1, y3.1.1.2.2.2.1, a2, y3.1.1.2.2.2.2.2.1, y3.1.1.2.2.2.2.2.2.1, y3.1.1.2.2.2.2.2.2.2)))) fun y4 =>
    some y4) (
    Option.bind (f6j10 ((a2, (), (), (IntKind.i64.wrap (3 + (IntKind.i64.wrap (Int.tmod a3 2))))), ((y2.1.1, y2.1.2.1, y2.1.2.2.1, y2.1.2.2.2.1, y2.1.2.2.2.2.1, 2, y2.1.2.2.2.2.2.2.1, y2.1.2.2.2.2.2.2.2.1, y2.1.2.2.2.2.2.2.2.2), (y3.1.1.1, y3.1.1.2.1, y3.1.1.2.2.1, y3.1.1.2.2.2.1, a2, y3.1.1.2.2.2.2.2.1, y3.1.1.2.2.2.2.2.2.1, y3.1.1.2.2.2.2.2.2.2)))) fun y5 =>
    some y5)
noncomputable def f6C : Cal := tbl [(8, (ent (.nums .i64) [] (.ptr 0 0) [(.cells (.cons (.nums .i64) (.int .i64)))] f8W)), (9, (ent (.ptr 0 0) [(.cells (.cons (.nums .i64) (.int .i64)))] (.agg (.cons (.int .i64) (.cons .bool (.cons (.int .i64) (.cons (.int .i64) (.cons .bool (.cons (.int .i64) (.cons .bool (.cons (.nums .u64) (.int .i64)))))))))) [(.cells (.cons (.nums .i64) (.int .i64)))] f9W)), (13, (ent (.ptr 0 0) [(.cells (.cons (.nums .i64) (.int .i64)))] (.tup (.cons (.agg (.cons (.int .u64) (.cons (.int .i64) (.cons (.int .i64) (.cons (.int .i64) (.cons (.int .u64) (.cons (.nums .u8) (.cons (.int .i64) (.int .u64))))))))) (.cons (.agg (.cons (.int .i64) (.cons (.int .i64) (.int .i64)))) (.int .i64)))) [(.cells (.cons (.nums .i64) (.int .i64)))] f13W)), (14, (ent (.cons (.agg (.cons (.int .i64) (.cons .bool (.cons (.int .i64) (.cons (.int .i64) (.cons .bool (.cons (.int .i64) (.cons .bool (.cons (.nums .u64) (.int .i64)))))))))) (.cons (.agg (.cons (.int .u64) (.cons (.int .i64) (.cons (.int .i64) (.cons (.int .i64) (.cons (.int .u64) (.cons (.nums .u8) (.cons (.int .i64) (.int .u64))))))))) (.cons (.agg (.cons (.int .i64) (.cons (.int .i64) (.int .i64)))) (.int .i64)))) [] (.int .i64) [] f14W)), (16, (ent (.cons (.agg (.cons (.int .i64) (.cons .bool (.cons (.int .i64) (.cons (.int .i64) (.cons .bool (.cons (.int .i64) (.cons .bool (.cons (.nums .u64) (.int .i64)))))))))) (.cons (.agg (.cons (.int .u64) (.cons (.int .i64) (.cons (.int .i64) (.cons (.int .i64) (.cons (.int .u64) (.cons (.nums .u8) (.cons (.int .i64) (.int .u64))))))))) (.cons (.agg (.cons (.nums .u8) (.cons (.int .i64) (.cons (.int .u64) (.cons (.int .u64) (.cons (.int .i64) (.cons .bool (.cons (.int .u64) (.cons (.sl 2) (.cons .bool (.cons (.int .i64) (.int .i64)))))))))))) (.int .i64)))) [] (.int .i64) [] f16W)), (7, (ent .nil [] .bool [] f7W))]
theorem f6C_ok : CalOK Try.prog f6C ∧ CalNt f6C := tbl_ok (by
  intro p hp
  simp only [List.mem_cons, List.not_mem_nil, or_false] at hp
  rcases hp with rfl | rfl | rfl | rfl | rfl | rfl
  · exact f8_ok
  · exact f9_ok
  · exact f13_ok
  · exact f14_ok
  · exact f16_ok
  · exact f7_ok)
noncomputable def f6F : FH := { join := [(10, { keep := [1, 8, 9, 12], fzC := [(8, 7)] })] }
theorem f6j10_s (a1 : Int) (a2 : Int) (a3 : Int) (a4 : Bool) (a5 : Int) (a6 : Int) (a7 : Bool) (a8 : Int) (a9 : Bool) (a10 : List Int) (a11 : Int) (a12 : Int) (a13 : Int) (a14 : Int) (a15 : Int) (a16 : Int) (a17 : List Int) (a18 : Int) (a19 : Int) : joinC Try.prog f6C f6F [] [] 0 ((joinsAt 10 (codeOf Try.f6)).headD .skip) f6j10p f6j10x { keep := [6] } ((a1, (), (), a2), ((a3, a4, a5, a6, a7, a8, a9, a10, a11), (a12, a13, a14, a15, a16, a17, a18, a19))) _ some = f6j10 ((a1, (), (), a2), ((a3, a4, a5, a6, a7, a8, a9, a10, a11), (a12, a13, a14, a15, a16, a17, a18, a19))) := by kernel_rfl
theorem f6j10_t : ToldC Try.prog 0 (codeOf Try.f6) [] ((10, toldJ f6j10p f6j10x f6j10) :: []) :=
  ToldC.join f6F 0 (ToldC.nil 0) f6C_ok 10 ((joinsAt 10 (codeOf Try.f6)).headD .skip) (by kernel_rfl) (p := f6j10p) (px := f6j10x) (g := f6j10) (ho := { keep := [6] }) fun (x : ((Int × Unit × Unit × Int) × ((Int × Bool × Int × Int × Bool × Int × Bool × List Int × Int) × (Int × Int × Int × Int × Int × List Int × Int × Int)))) => f6j10_s x.1.1 x.1.2.2.2 x.2.1.1 x.2.1.2.1 x.2.1.2.2.1 x.2.1.2.2.2.1 x.2.1.2.2.2.2.1 x.2.1.2.2.2.2.2.1 x.2.1.2.2.2.2.2.2.1 x.2.1.2.2.2.2.2.2.2.1 x.2.1.2.2.2.2.2.2.2.2 x.2.2.1 x.2.2.2.1 x.2.2.2.2.1 x.2.2.2.2.2.1 x.2.2.2.2.2.2.1 x.2.2.2.2.2.2.2.1 x.2.2.2.2.2.2.2.2.1 x.2.2.2.2.2.2.2.2.2
theorem f6_b (a1 : List Int) (a2 : Int) (a3 : Int) : bodyC Try.prog f6C f6F [] ((10, toldJ f6j10p f6j10x f6j10) :: []) { keep := [] } 6 (.cons (.nums .i64) (.cons (.int .u64) (.int .u8))) [] .bool [] (a1, a2, a3) _ some = f6 a1 a2 a3 := by kernel_rfl
noncomputable def f6W (x : TyA (.cons (.nums .i64) (.cons (.int .u64) (.int .u8))) []) : Option (TyR .bool []) := f6 x.1 x.2.1 x.2.2
theorem f6_ok : EntOK Try.prog 6 (ent (.cons (.nums .i64) (.cons (.int .u64) (.int .u8))) [] .bool [] f6W) :=
  ent_ok f6F f6C_ok (hp := []) (fn := Try.f6) (by kernel_rfl) f6j10_t fun (x : (List Int × Int × Int)) => f6_b x.1 x.2.1 x.2.2
end Go.Proofs.Ytjfnkoilnomofaa
