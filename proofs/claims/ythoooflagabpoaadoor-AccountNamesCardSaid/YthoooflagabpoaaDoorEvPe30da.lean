/-
The functions of chapter 30d come to their values. Printed by a program.
-/
import Derived.Test.YthoooflagabpoaaDoorEvPv30d
import Derived.Test.YthoooflagabpoaaDoorProg
import Derived.Test.YthoooflagabpoaaDoorEvShelf
import Derived.Test.YthoooflagabpoaaDoorEvShelf30d
set_option linter.unusedVariables false
namespace Go.Proofs.YthoooflagabpoaaDoor
open Go Go.Ev Go.Px
set_option maxRecDepth 100000
set_option maxHeartbeats 8000000
noncomputable def strings_Repeat_P : Pt := (.cons .str (.int .i64))
noncomputable def strings_Repeat_H : List Po := []
noncomputable def strings_Repeat_R : Pt := .str
noncomputable def strings_Repeat_G : List Po := []
noncomputable def strings_Repeat_W (x : ByteArray × Int) : Option ByteArray := strings_Repeat x.1 x.2
theorem cond_none {A : Type} {b : Bool} {x y : A} (h : cond b (some x) none = some y) : b = true ∧ x = y := by
  cases b
  · cases h
  · exact ⟨rfl, Option.some.inj h⟩
/-- strings.Repeat: the shelf's summary as an entry. -/
theorem strings_Repeat_ok : EntOK Tryd.prog 16 (ent strings_Repeat_P strings_Repeat_H strings_Repeat_R strings_Repeat_G strings_Repeat_W) := ent_of fun (x : ByteArray × Int) y hy => by
  obtain ⟨s, n⟩ := x
  unfold strings_Repeat_W strings_Repeat at hy
  obtain ⟨hc, rfl⟩ := cond_none hy
  simp only [Bool.and_eq_true, decide_eq_true_eq] at hc
  obtain ⟨h0, h1, h2⟩ := hc
  obtain ⟨m, rfl⟩ := Int.eq_ofNat_of_zero_le h0
  refine FnOK.of_below fun w F0 γ0 vs hl hv => ?_
  have hv0 : V _ γ0 F0 w (.pd (.str s)) (vs.getD 0 undef) := hv 0 (show 0 < 2 by decide)
  have hv1 : V _ γ0 F0 w (.pd (.int .i64 (m : Int))) (vs.getD 1 undef) := hv 1 (show 1 < 2 by decide)
  have hl : vs.length = 2 := hl
  have e0 := hv0.inv_pd.inv_str
  have e1 := hv1.inv_pd.inv_int
  match vs, hl with
  | [a, b], _ =>
    have e0 : a = .string s := e0
    have e1 : b = .int .i64 (m : Int) := e1
    subst e0 e1
    refine ⟨?_, (Tryd.strings_Repeat s m w (by have h1 : (m : Int) ≤ 9223372036854775807 := h1; omega) (by simpa using h2)).mono fun e w' ⟨he, hb⟩ => ⟨_, he, hb, .str _⟩⟩
    have hn : Tryd.f16.name ≠ "runtime.NumGoroutine" := by decide
    obtain ⟨c, hc⟩ := Option.isSome_iff_exists.1 (show Tryd.f16.body.isSome = true by kernel_rfl)
    simp [callFunc, Tryd.func16, hn, hc]

/-! cast_Mod: passkey/passkeycast.Mod -/
noncomputable def cast_Mod_P : Pt := (.cons (.int .i64) (.int .i64))
noncomputable def cast_Mod_H : List Po := []
noncomputable def cast_Mod_R : Pt := (.int .i64)
noncomputable def cast_Mod_G : List Po := []
noncomputable def cast_Mod_V (f : Int → Int → Option Int) (x : (Int × Int)) : Option Int := f x.1 x.2
noncomputable def cast_Mod_C : Cal := tbl []
theorem cast_Mod_Cok : CalOK Tryd.prog cast_Mod_C ∧ CalNt cast_Mod_C := by
  unfold cast_Mod_C
  exact tbl_ok (by intro p hp; simp at hp)
noncomputable def cast_Mod_FH : FH := {}
theorem cast_Mod_b (a1 : Int) (a2 : Int) : bodyC Tryd.prog cast_Mod_C cast_Mod_FH [] [] { keep := [] } 31 cast_Mod_P cast_Mod_H cast_Mod_R cast_Mod_G (a1, a2) _ some = cast_Mod a1 a2 := by kernel_rfl
theorem cast_Mod_ok : EntOK Tryd.prog 31 (ent cast_Mod_P cast_Mod_H cast_Mod_R cast_Mod_G (cast_Mod_V (cast_Mod))) :=
  ent_ok cast_Mod_FH cast_Mod_Cok (hp := cast_Mod_H) (fn := Tryd.f31) (by kernel_rfl) (ToldC.nil 0) fun (x : (Int × Int)) => cast_Mod_b x.1 x.2

/-! ref1_Words: passkey/passkeyref1.Words -/
noncomputable def ref1_Words_l6p : SP := { n := 29, ix := [0, 3, 4, 5], p := (.cons (.nums .u64) (.cons (.ref 0) (.cons (.int .i64) (.int .i64)))), hp := [(.arrN 1 5 .u8)] }
noncomputable def ref1_Words_l6x : List (Ex × SP) := [((.exit 2), { n := 29, ix := [0, 3, 4], p := (.cons (.nums .u64) (.cons (.ref 0) (.int .i64))), hp := [(.arrN 1 5 .u8)] })]
noncomputable def ref1_Words_l3p : SP := { n := 29, ix := [0, 3, 4], p := (.cons (.nums .u64) (.cons (.ref 0) (.int .i64))), hp := [(.arrN 1 5 .u8)] }
noncomputable def ref1_Words_l3x : List (Ex × SP) := [((.exit 0), { n := 29, ix := [3], p := (.ref 0), hp := [(.arrN 1 5 .u8)] })]
noncomputable def ref1_Words_P : Pt := (.nums .u64)
noncomputable def ref1_Words_H : List Po := []
noncomputable def ref1_Words_R : Pt := (.ref 0)
noncomputable def ref1_Words_G : List Po := [(.arrN 1 5 .u8)]
noncomputable def ref1_Words_V (f : (List Int) → Option (Unit × List Int)) (x : List Int) : Option (Unit × List Int) := f x
noncomputable def ref1_Words_C : Cal := tbl []
theorem ref1_Words_Cok : CalOK Tryd.prog ref1_Words_C ∧ CalNt ref1_Words_C := by
  unfold ref1_Words_C
  exact tbl_ok (by intro p hp; simp at hp)
noncomputable def ref1_Words_FH : FH := { loops := [(6, { keep := [0, 3, 4, 5] }, { keep := [0, 2, 3, 4] }), (3, { keep := [0, 3, 4], own := [(3, 5)] }, { keep := [2, 3] })] }
theorem ref1_Words_l6_s (a1 : List Int) (a2 : Int) (a3 : Int) (a4 : List Int) : stepC Tryd.prog ref1_Words_C ref1_Words_FH [] [] 0 ((loopsAt 6 (codeOf Tryd.f47)).headD .skip) ref1_Words_l6p ref1_Words_l6x { keep := [0, 3, 4, 5] } { keep := [0, 2, 3, 4] } ((a1, (), a2, a3), a4) _ some = ref1_Words_l6 ((a1, (), a2, a3), a4) := by kernel_rfl
theorem ref1_Words_l6_t : ToldC Tryd.prog 0 (codeOf Tryd.f47) ((6, toldL ref1_Words_l6p ref1_Words_l6x ref1_Words_l6) :: []) [] :=
  ToldC.loop ref1_Words_FH 0 (ToldC.nil 0) ref1_Words_Cok 6 ((loopsAt 6 (codeOf Tryd.f47)).headD .skip) (by kernel_rfl) (p := ref1_Words_l6p) (px := ref1_Words_l6x) (g := ref1_Words_l6) (hi := { keep := [0, 3, 4, 5] }) (ho := { keep := [0, 2, 3, 4] }) (by kernel_rfl) fun (x : ((List Int × Unit × Int × Int) × List Int)) => ref1_Words_l6_s x.1.1 x.1.2.2.1 x.1.2.2.2 x.2
theorem ref1_Words_l3_s (a1 : List Int) (a2 : Int) (a3 : List Int) : stepC Tryd.prog ref1_Words_C ref1_Words_FH ((6, toldL ref1_Words_l6p ref1_Words_l6x ref1_Words_l6) :: []) [] 0 ((loopsAt 3 (codeOf Tryd.f47)).headD .skip) ref1_Words_l3p ref1_Words_l3x { keep := [0, 3, 4], own := [(3, 5)] } { keep := [2, 3] } ((a1, (), a2), a3) _ some = ref1_Words_l3 ((a1, (), a2), a3) := by kernel_rfl
theorem ref1_Words_l3_t : ToldC Tryd.prog 0 (codeOf Tryd.f47) ((3, toldL ref1_Words_l3p ref1_Words_l3x ref1_Words_l3) :: ((6, toldL ref1_Words_l6p ref1_Words_l6x ref1_Words_l6) :: [])) [] :=
  ToldC.loop ref1_Words_FH 0 ref1_Words_l6_t ref1_Words_Cok 3 ((loopsAt 3 (codeOf Tryd.f47)).headD .skip) (by kernel_rfl) (p := ref1_Words_l3p) (px := ref1_Words_l3x) (g := ref1_Words_l3) (hi := { keep := [0, 3, 4], own := [(3, 5)] }) (ho := { keep := [2, 3] }) (by kernel_rfl) fun (x : ((List Int × Unit × Int) × List Int)) => ref1_Words_l3_s x.1.1 x.1.2.2 x.2
theorem ref1_Words_b (a1 : List Int) : bodyC Tryd.prog ref1_Words_C ref1_Words_FH ((3, toldL ref1_Words_l3p ref1_Words_l3x ref1_Words_l3) :: ((6, toldL ref1_Words_l6p ref1_Words_l6x ref1_Words_l6) :: [])) [] { keep := [] } 47 ref1_Words_P ref1_Words_H ref1_Words_R ref1_Words_G a1 _ some = ref1_Words a1 := by kernel_rfl
theorem ref1_Words_ok : EntOK Tryd.prog 47 (ent ref1_Words_P ref1_Words_H ref1_Words_R ref1_Words_G (ref1_Words_V (ref1_Words))) :=
  ent_ok ref1_Words_FH ref1_Words_Cok (hp := ref1_Words_H) (fn := Tryd.f47) (by kernel_rfl) ref1_Words_l3_t fun (x : List Int) => ref1_Words_b x

/-! ref1_rotl: passkey/passkeyref1.rotl -/
noncomputable def ref1_rotl_P : Pt := (.cons (.int .u64) (.int .u64))
noncomputable def ref1_rotl_H : List Po := []
noncomputable def ref1_rotl_R : Pt := (.int .u64)
noncomputable def ref1_rotl_G : List Po := []
noncomputable def ref1_rotl_V (f : Int → Int → Option Int) (x : (Int × Int)) : Option Int := f x.1 x.2
noncomputable def ref1_rotl_C : Cal := tbl []
theorem ref1_rotl_Cok : CalOK Tryd.prog ref1_rotl_C ∧ CalNt ref1_rotl_C := by
  unfold ref1_rotl_C
  exact tbl_ok (by intro p hp; simp at hp)
noncomputable def ref1_rotl_FH : FH := {}
theorem ref1_rotl_b (a1 : Int) (a2 : Int) : bodyC Tryd.prog ref1_rotl_C ref1_rotl_FH [] [] { keep := [] } 84 ref1_rotl_P ref1_rotl_H ref1_rotl_R ref1_rotl_G (a1, a2) _ some = ref1_rotl a1 a2 := by kernel_rfl
theorem ref1_rotl_ok : EntOK Tryd.prog 84 (ent ref1_rotl_P ref1_rotl_H ref1_rotl_R ref1_rotl_G (ref1_rotl_V (ref1_rotl))) :=
  ent_ok ref1_rotl_FH ref1_rotl_Cok (hp := ref1_rotl_H) (fn := Tryd.f84) (by kernel_rfl) (ToldC.nil 0) fun (x : (Int × Int)) => ref1_rotl_b x.1 x.2

/-! ref1_round: passkey/passkeyref1.round -/
noncomputable def ref1_round_P : Pt := (.arr .u64 4)
noncomputable def ref1_round_H : List Po := []
noncomputable def ref1_round_R : Pt := (.arr .u64 4)
noncomputable def ref1_round_G : List Po := []
noncomputable def ref1_round_V (f : (List Int) → Option (List Int)) (x : List Int) : Option (List Int) := f x
noncomputable def ref1_round_C : Cal := tbl [(84, (ent ref1_rotl_P ref1_rotl_H ref1_rotl_R ref1_rotl_G (ref1_rotl_V (ref1_rotl))))]
theorem ref1_round_Cok : CalOK Tryd.prog ref1_round_C ∧ CalNt ref1_round_C := by
  unfold ref1_round_C
  exact tbl_ok (by
    intro p hp
    simp only [List.mem_cons, List.not_mem_nil, or_false] at hp
    rcases hp with rfl
    exact ref1_rotl_ok)
noncomputable def ref1_round_FH : FH := {}
theorem ref1_round_b (a1 : List Int) : bodyC Tryd.prog ref1_round_C ref1_round_FH [] [] { keep := [] } 64 ref1_round_P ref1_round_H ref1_round_R ref1_round_G a1 _ some = ref1_round a1 := by kernel_rfl
theorem ref1_round_ok : EntOK Tryd.prog 64 (ent ref1_round_P ref1_round_H ref1_round_R ref1_round_G (ref1_round_V (ref1_round))) :=
  ent_ok ref1_round_FH ref1_round_Cok (hp := ref1_round_H) (fn := Tryd.f64) (by kernel_rfl) (ToldC.nil 0) fun (x : List Int) => ref1_round_b x

/-! ref1_Sum: passkey/passkeyref1.Sum -/
noncomputable def ref1_Sum_j14p : SP := { n := 86, ix := [2, 7, 8, 9, 10, 11], p := (.cons (.nums .u8) (.cons (.ptr 0 0) (.cons (.int .i64) (.cons (.int .u64) (.cons (.int .i64) (.int .u8)))))), hp := [(.ints .u64 4)] }
noncomputable def ref1_Sum_j14x : List (Ex × SP) := [(.norm, { n := 86, ix := [2, 7, 8, 9, 10], p := (.cons (.nums .u8) (.cons (.ptr 0 0) (.cons (.int .i64) (.cons (.int .u64) (.int .i64))))), hp := [(.ints .u64 4)] })]
noncomputable def ref1_Sum_l7p : SP := { n := 86, ix := [2, 7, 8, 9, 10], p := (.cons (.nums .u8) (.cons (.ptr 0 0) (.cons (.int .i64) (.cons (.int .u64) (.int .i64))))), hp := [(.ints .u64 4)] }
noncomputable def ref1_Sum_l7x : List (Ex × SP) := [((.exit 2), { n := 86, ix := [2, 7, 8, 9], p := (.cons (.nums .u8) (.cons (.ptr 0 0) (.cons (.int .i64) (.int .u64)))), hp := [(.ints .u64 4)] })]
noncomputable def ref1_Sum_l3p : SP := { n := 86, ix := [2, 7, 8], p := (.cons (.nums .u8) (.cons (.ptr 0 0) (.int .i64))), hp := [(.ints .u64 4)] }
noncomputable def ref1_Sum_l3x : List (Ex × SP) := [((.exit 0), { n := 86, ix := [7], p := (.ptr 0 0), hp := [(.ints .u64 4)] })]
noncomputable def ref1_Sum_P : Pt := (.cons (.int .u64) (.cons (.int .u64) (.nums .u8)))
noncomputable def ref1_Sum_H : List Po := []
noncomputable def ref1_Sum_R : Pt := (.int .u64)
noncomputable def ref1_Sum_G : List Po := []
noncomputable def ref1_Sum_V (f : Int → Int → (List Int) → Option Int) (x : (Int × Int × List Int)) : Option Int := f x.1 x.2.1 x.2.2
noncomputable def ref1_Sum_C : Cal := tbl [(64, (ent ref1_round_P ref1_round_H ref1_round_R ref1_round_G (ref1_round_V (ref1_round))))]
theorem ref1_Sum_Cok : CalOK Tryd.prog ref1_Sum_C ∧ CalNt ref1_Sum_C := by
  unfold ref1_Sum_C
  exact tbl_ok (by
    intro p hp
    simp only [List.mem_cons, List.not_mem_nil, or_false] at hp
    rcases hp with rfl
    exact ref1_round_ok)
noncomputable def ref1_Sum_FH : FH := { join := [(14, { keep := [2, 7, 8, 9, 10, 11] })], loops := [(7, { keep := [2, 7, 8, 9, 10] }, { keep := [2, 6, 7, 8, 9] }), (3, { keep := [2, 7, 8] }, { keep := [6, 7] })] }
theorem ref1_Sum_j14_s (a1 : List Int) (a2 : Int) (a3 : Int) (a4 : Int) (a5 : Int) (a6 : List Int) : joinC Tryd.prog ref1_Sum_C ref1_Sum_FH [] [] 0 ((joinsAt 14 (codeOf Tryd.f42)).headD .skip) ref1_Sum_j14p ref1_Sum_j14x { keep := [2, 6, 7, 8, 9, 10] } ((a1, (), a2, a3, a4, a5), a6) _ some = ref1_Sum_j14 ((a1, (), a2, a3, a4, a5), a6) := by kernel_rfl
theorem ref1_Sum_j14_t : ToldC Tryd.prog 0 (codeOf Tryd.f42) [] ((14, toldJ ref1_Sum_j14p ref1_Sum_j14x ref1_Sum_j14) :: []) :=
  ToldC.join ref1_Sum_FH 0 (ToldC.nil 0) ref1_Sum_Cok 14 ((joinsAt 14 (codeOf Tryd.f42)).headD .skip) (by kernel_rfl) (p := ref1_Sum_j14p) (px := ref1_Sum_j14x) (g := ref1_Sum_j14) (ho := { keep := [2, 6, 7, 8, 9, 10] }) fun (x : ((List Int × Unit × Int × Int × Int × Int) × List Int)) => ref1_Sum_j14_s x.1.1 x.1.2.2.1 x.1.2.2.2.1 x.1.2.2.2.2.1 x.1.2.2.2.2.2 x.2
theorem ref1_Sum_l7_s (a1 : List Int) (a2 : Int) (a3 : Int) (a4 : Int) (a5 : List Int) : stepC Tryd.prog ref1_Sum_C ref1_Sum_FH [] ((14, toldJ ref1_Sum_j14p ref1_Sum_j14x ref1_Sum_j14) :: []) 0 ((loopsAt 7 (codeOf Tryd.f42)).headD .skip) ref1_Sum_l7p ref1_Sum_l7x { keep := [2, 7, 8, 9, 10] } { keep := [2, 6, 7, 8, 9] } ((a1, (), a2, a3, a4), a5) _ some = ref1_Sum_l7 ((a1, (), a2, a3, a4), a5) := by kernel_rfl
theorem ref1_Sum_l7_t : ToldC Tryd.prog 0 (codeOf Tryd.f42) ((7, toldL ref1_Sum_l7p ref1_Sum_l7x ref1_Sum_l7) :: []) ((14, toldJ ref1_Sum_j14p ref1_Sum_j14x ref1_Sum_j14) :: []) :=
  ToldC.loop ref1_Sum_FH 0 ref1_Sum_j14_t ref1_Sum_Cok 7 ((loopsAt 7 (codeOf Tryd.f42)).headD .skip) (by kernel_rfl) (p := ref1_Sum_l7p) (px := ref1_Sum_l7x) (g := ref1_Sum_l7) (hi := { keep := [2, 7, 8, 9, 10] }) (ho := { keep := [2, 6, 7, 8, 9] }) (by kernel_rfl) fun (x : ((List Int × Unit × Int × Int × Int) × List Int)) => ref1_Sum_l7_s x.1.1 x.1.2.2.1 x.1.2.2.2.1 x.1.2.2.2.2 x.2
theorem ref1_Sum_l3_s (a1 : List Int) (a2 : Int) (a3 : List Int) : stepC Tryd.prog ref1_Sum_C ref1_Sum_FH ((7, toldL ref1_Sum_l7p ref1_Sum_l7x ref1_Sum_l7) :: []) ((14, toldJ ref1_Sum_j14p ref1_Sum_j14x ref1_Sum_j14) :: []) 0 ((loopsAt 3 (codeOf Tryd.f42)).headD .skip) ref1_Sum_l3p ref1_Sum_l3x { keep := [2, 7, 8] } { keep := [6, 7] } ((a1, (), a2), a3) _ some = ref1_Sum_l3 ((a1, (), a2), a3) := by kernel_rfl
theorem ref1_Sum_l3_t : ToldC Tryd.prog 0 (codeOf Tryd.f42) ((3, toldL ref1_Sum_l3p ref1_Sum_l3x ref1_Sum_l3) :: ((7, toldL ref1_Sum_l7p ref1_Sum_l7x ref1_Sum_l7) :: [])) ((14, toldJ ref1_Sum_j14p ref1_Sum_j14x ref1_Sum_j14) :: []) :=
  ToldC.loop ref1_Sum_FH 0 ref1_Sum_l7_t ref1_Sum_Cok 3 ((loopsAt 3 (codeOf Tryd.f42)).headD .skip) (by kernel_rfl) (p := ref1_Sum_l3p) (px := ref1_Sum_l3x) (g := ref1_Sum_l3) (hi := { keep := [2, 7, 8] }) (ho := { keep := [6, 7] }) (by kernel_rfl) fun (x : ((List Int × Unit × Int) × List Int)) => ref1_Sum_l3_s x.1.1 x.1.2.2 x.2
theorem ref1_Sum_b (a1 : Int) (a2 : Int) (a3 : List Int) : bodyC Tryd.prog ref1_Sum_C ref1_Sum_FH ((3, toldL ref1_Sum_l3p ref1_Sum_l3x ref1_Sum_l3) :: ((7, toldL ref1_Sum_l7p ref1_Sum_l7x ref1_Sum_l7) :: [])) ((14, toldJ ref1_Sum_j14p ref1_Sum_j14x ref1_Sum_j14) :: []) { keep := [] } 42 ref1_Sum_P ref1_Sum_H ref1_Sum_R ref1_Sum_G (a1, a2, a3) _ some = ref1_Sum a1 a2 a3 := by kernel_rfl
theorem ref1_Sum_ok : EntOK Tryd.prog 42 (ent ref1_Sum_P ref1_Sum_H ref1_Sum_R ref1_Sum_G (ref1_Sum_V (ref1_Sum))) :=
  ent_ok ref1_Sum_FH ref1_Sum_Cok (hp := ref1_Sum_H) (fn := Tryd.f42) (by kernel_rfl) ref1_Sum_l3_t fun (x : (Int × Int × List Int)) => ref1_Sum_b x.1 x.2.1 x.2.2

/-! ref1_Mac: passkey/passkeyref1.Mac -/
noncomputable def ref1_Mac_P : Pt := (.cons (.int .u64) (.cons (.int .i64) (.nums .u8)))
noncomputable def ref1_Mac_H : List Po := []
noncomputable def ref1_Mac_R : Pt := (.int .u64)
noncomputable def ref1_Mac_G : List Po := []
noncomputable def ref1_Mac_V (f : Int → Int → (List Int) → Option Int) (x : (Int × Int × List Int)) : Option Int := f x.1 x.2.1 x.2.2
noncomputable def ref1_Mac_C : Cal := tbl [(42, (ent ref1_Sum_P ref1_Sum_H ref1_Sum_R ref1_Sum_G (ref1_Sum_V (ref1_Sum))))]
theorem ref1_Mac_Cok : CalOK Tryd.prog ref1_Mac_C ∧ CalNt ref1_Mac_C := by
  unfold ref1_Mac_C
  exact tbl_ok (by
    intro p hp
    simp only [List.mem_cons, List.not_mem_nil, or_false] at hp
    rcases hp with rfl
    exact ref1_Sum_ok)
noncomputable def ref1_Mac_FH : FH := {}
theorem ref1_Mac_b (a1 : Int) (a2 : Int) (a3 : List Int) : bodyC Tryd.prog ref1_Mac_C ref1_Mac_FH [] [] { keep := [] } 17 ref1_Mac_P ref1_Mac_H ref1_Mac_R ref1_Mac_G (a1, a2, a3) _ some = ref1_Mac a1 a2 a3 := by kernel_rfl
theorem ref1_Mac_ok : EntOK Tryd.prog 17 (ent ref1_Mac_P ref1_Mac_H ref1_Mac_R ref1_Mac_G (ref1_Mac_V (ref1_Mac))) :=
  ent_ok ref1_Mac_FH ref1_Mac_Cok (hp := ref1_Mac_H) (fn := Tryd.f17) (by kernel_rfl) (ToldC.nil 0) fun (x : (Int × Int × List Int)) => ref1_Mac_b x.1 x.2.1 x.2.2

/-! ref3_Stream: passkey/passkeyref3.Stream -/
noncomputable def ref3_Stream_l4p : SP := { n := 32, ix := [0, 1, 2, 7, 8], p := (.cons (.int .u64) (.cons (.int .u64) (.cons (.int .i64) (.cons (.ref 0) (.int .i64))))), hp := [(.arrN 1 5 .u8)] }
noncomputable def ref3_Stream_l4x : List (Ex × SP) := [((.exit 0), { n := 32, ix := [2, 7], p := (.cons (.int .i64) (.ref 0)), hp := [(.arrN 1 5 .u8)] })]
noncomputable def ref3_Stream_P : Pt := (.cons (.int .u64) (.cons (.int .u64) (.int .i64)))
noncomputable def ref3_Stream_H : List Po := []
noncomputable def ref3_Stream_R : Pt := (.ref 0)
noncomputable def ref3_Stream_G : List Po := [(.arrN 1 5 .u8)]
noncomputable def ref3_Stream_V (f : Int → Int → Int → Option (Unit × List Int)) (x : (Int × Int × Int)) : Option (Unit × List Int) := f x.1 x.2.1 x.2.2
noncomputable def ref3_Stream_C : Cal := tbl [(47, (ent ref1_Words_P ref1_Words_H ref1_Words_R ref1_Words_G (ref1_Words_V (ref1_Words)))), (17, (ent ref1_Mac_P ref1_Mac_H ref1_Mac_R ref1_Mac_G (ref1_Mac_V (ref1_Mac))))]
theorem ref3_Stream_Cok : CalOK Tryd.prog ref3_Stream_C ∧ CalNt ref3_Stream_C := by
  unfold ref3_Stream_C
  exact tbl_ok (by
    intro p hp
    simp only [List.mem_cons, List.not_mem_nil, or_false] at hp
    rcases hp with rfl | rfl
    · exact ref1_Words_ok
    · exact ref1_Mac_ok)
noncomputable def ref3_Stream_FH : FH := { loops := [(4, { keep := [0, 1, 2, 7, 8], own := [(7, 5)] }, { keep := [2, 6, 7] })], ops := [(6, [(6, .borrow), (7, .borrow), (9, .borrow)]), (7, [(2, .take)])] }
theorem ref3_Stream_l4_s (a1 : Int) (a2 : Int) (a3 : Int) (a4 : Int) (a5 : List Int) : stepC Tryd.prog ref3_Stream_C ref3_Stream_FH [] [] 0 ((loopsAt 4 (codeOf Tryd.f24)).headD .skip) ref3_Stream_l4p ref3_Stream_l4x { keep := [0, 1, 2, 7, 8], own := [(7, 5)] } { keep := [2, 6, 7] } ((a1, a2, a3, (), a4), a5) _ some = ref3_Stream_l4 ((a1, a2, a3, (), a4), a5) := by kernel_rfl
theorem ref3_Stream_l4_t : ToldC Tryd.prog 0 (codeOf Tryd.f24) ((4, toldL ref3_Stream_l4p ref3_Stream_l4x ref3_Stream_l4) :: []) [] :=
  ToldC.loop ref3_Stream_FH 0 (ToldC.nil 0) ref3_Stream_Cok 4 ((loopsAt 4 (codeOf Tryd.f24)).headD .skip) (by kernel_rfl) (p := ref3_Stream_l4p) (px := ref3_Stream_l4x) (g := ref3_Stream_l4) (hi := { keep := [0, 1, 2, 7, 8], own := [(7, 5)] }) (ho := { keep := [2, 6, 7] }) (by kernel_rfl) fun (x : ((Int × Int × Int × Unit × Int) × List Int)) => ref3_Stream_l4_s x.1.1 x.1.2.1 x.1.2.2.1 x.1.2.2.2.2 x.2
theorem ref3_Stream_b (a1 : Int) (a2 : Int) (a3 : Int) : bodyC Tryd.prog ref3_Stream_C ref3_Stream_FH ((4, toldL ref3_Stream_l4p ref3_Stream_l4x ref3_Stream_l4) :: []) [] { keep := [] } 24 ref3_Stream_P ref3_Stream_H ref3_Stream_R ref3_Stream_G (a1, a2, a3) _ some = ref3_Stream a1 a2 a3 := by kernel_rfl
theorem ref3_Stream_ok : EntOK Tryd.prog 24 (ent ref3_Stream_P ref3_Stream_H ref3_Stream_R ref3_Stream_G (ref3_Stream_V (ref3_Stream))) :=
  ent_ok ref3_Stream_FH ref3_Stream_Cok (hp := ref3_Stream_H) (fn := Tryd.f24) (by kernel_rfl) ref3_Stream_l4_t fun (x : (Int × Int × Int)) => ref3_Stream_b x.1 x.2.1 x.2.2

/-! cast_Bytes: passkey/passkeycast.Bytes -/
noncomputable def cast_Bytes_P : Pt := (.cons (.int .i64) (.int .i64))
noncomputable def cast_Bytes_H : List Po := []
noncomputable def cast_Bytes_R : Pt := (.ref 0)
noncomputable def cast_Bytes_G : List Po := [(.arrN 1 5 .u8)]
noncomputable def cast_Bytes_V (f : Int → Int → Option (Unit × List Int)) (x : (Int × Int)) : Option (Unit × List Int) := f x.1 x.2
noncomputable def cast_Bytes_C : Cal := tbl [(24, (ent ref3_Stream_P ref3_Stream_H ref3_Stream_R ref3_Stream_G (ref3_Stream_V (ref3_Stream))))]
theorem cast_Bytes_Cok : CalOK Tryd.prog cast_Bytes_C ∧ CalNt cast_Bytes_C := by
  unfold cast_Bytes_C
  exact tbl_ok (by
    intro p hp
    simp only [List.mem_cons, List.not_mem_nil, or_false] at hp
    rcases hp with rfl
    exact ref3_Stream_ok)
noncomputable def cast_Bytes_FH : FH := {}
theorem cast_Bytes_b (a1 : Int) (a2 : Int) : bodyC Tryd.prog cast_Bytes_C cast_Bytes_FH [] [] { keep := [] } 30 cast_Bytes_P cast_Bytes_H cast_Bytes_R cast_Bytes_G (a1, a2) _ some = cast_Bytes a1 a2 := by kernel_rfl
theorem cast_Bytes_ok : EntOK Tryd.prog 30 (ent cast_Bytes_P cast_Bytes_H cast_Bytes_R cast_Bytes_G (cast_Bytes_V (cast_Bytes))) :=
  ent_ok cast_Bytes_FH cast_Bytes_Cok (hp := cast_Bytes_H) (fn := Tryd.f30) (by kernel_rfl) (ToldC.nil 0) fun (x : (Int × Int)) => cast_Bytes_b x.1 x.2

/-! law30_stored: passkey/passkeylaw30.stored -/
noncomputable def law30_stored_P : Pt := (.cons (.int .i64) (.int .i64))
noncomputable def law30_stored_H : List Po := []
noncomputable def law30_stored_R : Pt := (.agg (.cons (.nums .u8) (.cons (.int .i64) (.cons (.int .u64) (.cons (.int .u64) (.cons (.int .i64) (.cons .bool (.cons (.int .u64) (.cons (.sl 2) (.cons .bool (.cons (.int .i64) (.int .i64))))))))))))
noncomputable def law30_stored_G : List Po := []
noncomputable def law30_stored_V (f : Int → Int → Option (List Int × Int × Int × Int × Int × Bool × Int × List PD × Bool × Int × Int)) (x : (Int × Int)) : Option (List Int × Int × Int × Int × Int × Bool × Int × List PD × Bool × Int × Int) := f x.1 x.2
noncomputable def law30_stored_C : Cal := tbl [(31, (ent cast_Mod_P cast_Mod_H cast_Mod_R cast_Mod_G (cast_Mod_V (cast_Mod)))), (30, (ent cast_Bytes_P cast_Bytes_H cast_Bytes_R cast_Bytes_G (cast_Bytes_V (cast_Bytes))))]
theorem law30_stored_Cok : CalOK Tryd.prog law30_stored_C ∧ CalNt law30_stored_C := by
  unfold law30_stored_C
  exact tbl_ok (by
    intro p hp
    simp only [List.mem_cons, List.not_mem_nil, or_false] at hp
    rcases hp with rfl | rfl
    · exact cast_Mod_ok
    · exact cast_Bytes_ok)
noncomputable def law30_stored_FH : FH := {}
theorem law30_stored_b (a1 : Int) (a2 : Int) : bodyC Tryd.prog law30_stored_C law30_stored_FH [] [] { keep := [], fz := [0] } 11 law30_stored_P law30_stored_H law30_stored_R law30_stored_G (a1, a2) _ some = law30_stored a1 a2 := by kernel_rfl
theorem law30_stored_ok : EntOK Tryd.prog 11 (ent law30_stored_P law30_stored_H law30_stored_R law30_stored_G (law30_stored_V (law30_stored))) :=
  ent_ok law30_stored_FH law30_stored_Cok (hp := law30_stored_H) (fn := Tryd.f11) (by kernel_rfl) (ToldC.nil 0) fun (x : (Int × Int)) => law30_stored_b x.1 x.2

/-! account_Accept_1_67e: passkey/account.Accept$1 -/
noncomputable def account_Accept_1_67e_P : Pt := (.cons (.agg (.cons (.int .i64) (.int .i64))) (.ptr 0 0))
noncomputable def account_Accept_1_67e_H : List Po := [(.cells (.int .i64))]
noncomputable def account_Accept_1_67e_R : Pt := .bool
noncomputable def account_Accept_1_67e_G : List Po := [(.cells (.int .i64))]
noncomputable def account_Accept_1_67e_V (f : Int → Int → Int → Option (Bool × Int)) (x : (((Int × Int) × Unit) × Int)) : Option (Bool × Int) := f x.1.1.1 x.1.1.2 x.2
noncomputable def account_Accept_1_67e_C : Cal := tbl []
theorem account_Accept_1_67e_Cok : CalOK Tryd.prog account_Accept_1_67e_C ∧ CalNt account_Accept_1_67e_C := by
  unfold account_Accept_1_67e_C
  exact tbl_ok (by intro p hp; simp at hp)
noncomputable def account_Accept_1_67e_FH : FH := {}
theorem account_Accept_1_67e_b (a1 : Int) (a2 : Int) (a3 : Int) : bodyC Tryd.prog account_Accept_1_67e_C account_Accept_1_67e_FH [] [] { keep := [] } 26 account_Accept_1_67e_P account_Accept_1_67e_H account_Accept_1_67e_R account_Accept_1_67e_G (((a1, a2), ()), a3) _ some = account_Accept_1_67e a1 a2 a3 := by kernel_rfl
theorem account_Accept_1_67e_ok : EntOK Tryd.prog 26 (ent account_Accept_1_67e_P account_Accept_1_67e_H account_Accept_1_67e_R account_Accept_1_67e_G (account_Accept_1_67e_V (account_Accept_1_67e))) :=
  ent_ok account_Accept_1_67e_FH account_Accept_1_67e_Cok (hp := account_Accept_1_67e_H) (fn := Tryd.f26) (by kernel_rfl) (ToldC.nil 1) fun (x : (((Int × Int) × Unit) × Int)) => account_Accept_1_67e_b x.1.1.1 x.1.1.2 x.2

/-! slices_IndexFunc_Lapi_Range_api_Range_026: slices.IndexFunc[[]passkey/api.Range,passkey/api.Range] -/
noncomputable def slices_IndexFunc_Lapi_Range_api_Range_026_l2p : SP := { n := 19, ix := [0, 1, 7, 8], p := (.cons (.sl 2) (.cons (.clo 26 .nil (.ptr 0 0)) (.cons (.int .i64) (.int .i64)))), hp := [(.cells (.int .i64))] }
noncomputable def slices_IndexFunc_Lapi_Range_api_Range_026_l2x : List (Ex × SP) := [(.ret, { n := 19, ix := [4], p := (.int .i64), hp := [(.cells (.int .i64))] }), ((.exit 0), { n := 19, ix := [], p := .nil, hp := [(.cells (.int .i64))] })]
noncomputable def slices_IndexFunc_Lapi_Range_api_Range_026_P : Pt := (.cons (.sl 2) (.clo 26 .nil (.ptr 0 0)))
noncomputable def slices_IndexFunc_Lapi_Range_api_Range_026_H : List Po := [(.cells (.int .i64))]
noncomputable def slices_IndexFunc_Lapi_Range_api_Range_026_R : Pt := (.int .i64)
noncomputable def slices_IndexFunc_Lapi_Range_api_Range_026_G : List Po := [(.cells (.int .i64))]
noncomputable def slices_IndexFunc_Lapi_Range_api_Range_026_V (f : (List PD) → Int → Option (Int × Int)) (x : ((List PD × (Unit × Unit)) × Int)) : Option (Int × Int) := f x.1.1 x.2
noncomputable def slices_IndexFunc_Lapi_Range_api_Range_026_C : Cal := tbl [(26, (ent account_Accept_1_67e_P account_Accept_1_67e_H account_Accept_1_67e_R account_Accept_1_67e_G (account_Accept_1_67e_V (account_Accept_1_67e))))]
theorem slices_IndexFunc_Lapi_Range_api_Range_026_Cok : CalOK Tryd.prog slices_IndexFunc_Lapi_Range_api_Range_026_C ∧ CalNt slices_IndexFunc_Lapi_Range_api_Range_026_C := by
  unfold slices_IndexFunc_Lapi_Range_api_Range_026_C
  exact tbl_ok (by
    intro p hp
    simp only [List.mem_cons, List.not_mem_nil, or_false] at hp
    rcases hp with rfl
    exact account_Accept_1_67e_ok)
noncomputable def slices_IndexFunc_Lapi_Range_api_Range_026_FH : FH := { loops := [(2, { keep := [0, 1, 7, 8] }, { keep := [4] })] }
theorem slices_IndexFunc_Lapi_Range_api_Range_026_l2_s (a1 : List PD) (a2 : Int) (a3 : Int) (a4 : Int) : stepC Tryd.prog slices_IndexFunc_Lapi_Range_api_Range_026_C slices_IndexFunc_Lapi_Range_api_Range_026_FH [] [] 1 ((loopsAt 2 (codeOf Tryd.f25)).headD .skip) slices_IndexFunc_Lapi_Range_api_Range_026_l2p slices_IndexFunc_Lapi_Range_api_Range_026_l2x { keep := [0, 1, 7, 8] } { keep := [4] } ((a1, ((), ()), a2, a3), a4) _ some = slices_IndexFunc_Lapi_Range_api_Range_026_l2 ((a1, ((), ()), a2, a3), a4) := by kernel_rfl
theorem slices_IndexFunc_Lapi_Range_api_Range_026_l2_t : ToldC Tryd.prog 1 (codeOf Tryd.f25) ((2, toldL slices_IndexFunc_Lapi_Range_api_Range_026_l2p slices_IndexFunc_Lapi_Range_api_Range_026_l2x slices_IndexFunc_Lapi_Range_api_Range_026_l2) :: []) [] :=
  ToldC.loop slices_IndexFunc_Lapi_Range_api_Range_026_FH 1 (ToldC.nil 1) slices_IndexFunc_Lapi_Range_api_Range_026_Cok 2 ((loopsAt 2 (codeOf Tryd.f25)).headD .skip) (by kernel_rfl) (p := slices_IndexFunc_Lapi_Range_api_Range_026_l2p) (px := slices_IndexFunc_Lapi_Range_api_Range_026_l2x) (g := slices_IndexFunc_Lapi_Range_api_Range_026_l2) (hi := { keep := [0, 1, 7, 8] }) (ho := { keep := [4] }) (by kernel_rfl) fun (x : ((List PD × (Unit × Unit) × Int × Int) × Int)) => slices_IndexFunc_Lapi_Range_api_Range_026_l2_s x.1.1 x.1.2.2.1 x.1.2.2.2 x.2
theorem slices_IndexFunc_Lapi_Range_api_Range_026_b (a1 : List PD) (a2 : Int) : bodyC Tryd.prog slices_IndexFunc_Lapi_Range_api_Range_026_C slices_IndexFunc_Lapi_Range_api_Range_026_FH ((2, toldL slices_IndexFunc_Lapi_Range_api_Range_026_l2p slices_IndexFunc_Lapi_Range_api_Range_026_l2x slices_IndexFunc_Lapi_Range_api_Range_026_l2) :: []) [] { keep := [] } 25 slices_IndexFunc_Lapi_Range_api_Range_026_P slices_IndexFunc_Lapi_Range_api_Range_026_H slices_IndexFunc_Lapi_Range_api_Range_026_R slices_IndexFunc_Lapi_Range_api_Range_026_G ((a1, ((), ())), a2) _ some = slices_IndexFunc_Lapi_Range_api_Range_026 a1 a2 := by kernel_rfl
theorem slices_IndexFunc_Lapi_Range_api_Range_026_ok : EntOK Tryd.prog 25 (ent slices_IndexFunc_Lapi_Range_api_Range_026_P slices_IndexFunc_Lapi_Range_api_Range_026_H slices_IndexFunc_Lapi_Range_api_Range_026_R slices_IndexFunc_Lapi_Range_api_Range_026_G (slices_IndexFunc_Lapi_Range_api_Range_026_V (slices_IndexFunc_Lapi_Range_api_Range_026))) :=
  ent_ok slices_IndexFunc_Lapi_Range_api_Range_026_FH slices_IndexFunc_Lapi_Range_api_Range_026_Cok (hp := slices_IndexFunc_Lapi_Range_api_Range_026_H) (fn := Tryd.f25) (by kernel_rfl) slices_IndexFunc_Lapi_Range_api_Range_026_l2_t fun (x : ((List PD × (Unit × Unit)) × Int)) => slices_IndexFunc_Lapi_Range_api_Range_026_b x.1.1 x.2

/-! slices_Clone_Lapi_Range_api_Range: slices.Clone[[]passkey/api.Range,passkey/api.Range] -/
noncomputable def slices_Clone_Lapi_Range_api_Range_P : Pt := (.sl 2)
noncomputable def slices_Clone_Lapi_Range_api_Range_H : List Po := []
noncomputable def slices_Clone_Lapi_Range_api_Range_R : Pt := (.ref 0)
noncomputable def slices_Clone_Lapi_Range_api_Range_G : List Po := [(.arrS 2 59 2)]
noncomputable def slices_Clone_Lapi_Range_api_Range_V (f : (List PD) → Option (Unit × List PD)) (x : List PD) : Option (Unit × List PD) := f x
noncomputable def slices_Clone_Lapi_Range_api_Range_C : Cal := tbl []
theorem slices_Clone_Lapi_Range_api_Range_Cok : CalOK Tryd.prog slices_Clone_Lapi_Range_api_Range_C ∧ CalNt slices_Clone_Lapi_Range_api_Range_C := by
  unfold slices_Clone_Lapi_Range_api_Range_C
  exact tbl_ok (by intro p hp; simp at hp)
noncomputable def slices_Clone_Lapi_Range_api_Range_FH : FH := {}
theorem slices_Clone_Lapi_Range_api_Range_b (a1 : List PD) : bodyC Tryd.prog slices_Clone_Lapi_Range_api_Range_C slices_Clone_Lapi_Range_api_Range_FH [] [] { keep := [], own := [(0, 59)] } 27 slices_Clone_Lapi_Range_api_Range_P slices_Clone_Lapi_Range_api_Range_H slices_Clone_Lapi_Range_api_Range_R slices_Clone_Lapi_Range_api_Range_G a1 _ some = slices_Clone_Lapi_Range_api_Range a1 := by kernel_rfl
theorem slices_Clone_Lapi_Range_api_Range_ok : EntOK Tryd.prog 27 (ent slices_Clone_Lapi_Range_api_Range_P slices_Clone_Lapi_Range_api_Range_H slices_Clone_Lapi_Range_api_Range_R slices_Clone_Lapi_Range_api_Range_G (slices_Clone_Lapi_Range_api_Range_V (slices_Clone_Lapi_Range_api_Range))) :=
  ent_ok slices_Clone_Lapi_Range_api_Range_FH slices_Clone_Lapi_Range_api_Range_Cok (hp := slices_Clone_Lapi_Range_api_Range_H) (fn := Tryd.f27) (by kernel_rfl) (ToldC.nil 0) fun (x : List PD) => slices_Clone_Lapi_Range_api_Range_b x

/-! account_Accept_2_67e: passkey/account.Accept$2 -/
noncomputable def account_Accept_2_67e_P : Pt := (.cons (.agg (.cons (.int .i64) (.int .i64))) (.ptr 0 0))
noncomputable def account_Accept_2_67e_H : List Po := [(.cells (.int .i64))]
noncomputable def account_Accept_2_67e_R : Pt := .bool
noncomputable def account_Accept_2_67e_G : List Po := [(.cells (.int .i64))]
noncomputable def account_Accept_2_67e_V (f : Int → Int → Int → Option (Bool × Int)) (x : (((Int × Int) × Unit) × Int)) : Option (Bool × Int) := f x.1.1.1 x.1.1.2 x.2
noncomputable def account_Accept_2_67e_C : Cal := tbl []
theorem account_Accept_2_67e_Cok : CalOK Tryd.prog account_Accept_2_67e_C ∧ CalNt account_Accept_2_67e_C := by
  unfold account_Accept_2_67e_C
  exact tbl_ok (by intro p hp; simp at hp)
noncomputable def account_Accept_2_67e_FH : FH := {}
theorem account_Accept_2_67e_b (a1 : Int) (a2 : Int) (a3 : Int) : bodyC Tryd.prog account_Accept_2_67e_C account_Accept_2_67e_FH [] [] { keep := [] } 28 account_Accept_2_67e_P account_Accept_2_67e_H account_Accept_2_67e_R account_Accept_2_67e_G (((a1, a2), ()), a3) _ some = account_Accept_2_67e a1 a2 a3 := by kernel_rfl
theorem account_Accept_2_67e_ok : EntOK Tryd.prog 28 (ent account_Accept_2_67e_P account_Accept_2_67e_H account_Accept_2_67e_R account_Accept_2_67e_G (account_Accept_2_67e_V (account_Accept_2_67e))) :=
  ent_ok account_Accept_2_67e_FH account_Accept_2_67e_Cok (hp := account_Accept_2_67e_H) (fn := Tryd.f28) (by kernel_rfl) (ToldC.nil 1) fun (x : (((Int × Int) × Unit) × Int)) => account_Accept_2_67e_b x.1.1.1 x.1.1.2 x.2

/-! slices_IndexFunc_Lapi_Range_api_Range_b38: slices.IndexFunc[[]passkey/api.Range,passkey/api.Range] -/
noncomputable def slices_IndexFunc_Lapi_Range_api_Range_b38_l2p : SP := { n := 19, ix := [0, 1, 7, 8], p := (.cons (.sl 2) (.cons (.clo 28 .nil (.ptr 0 0)) (.cons (.int .i64) (.int .i64)))), hp := [(.cells (.int .i64))] }
noncomputable def slices_IndexFunc_Lapi_Range_api_Range_b38_l2x : List (Ex × SP) := [(.ret, { n := 19, ix := [4], p := (.int .i64), hp := [(.cells (.int .i64))] }), ((.exit 0), { n := 19, ix := [], p := .nil, hp := [(.cells (.int .i64))] })]
noncomputable def slices_IndexFunc_Lapi_Range_api_Range_b38_P : Pt := (.cons (.sl 2) (.clo 28 .nil (.ptr 0 0)))
noncomputable def slices_IndexFunc_Lapi_Range_api_Range_b38_H : List Po := [(.cells (.int .i64))]
noncomputable def slices_IndexFunc_Lapi_Range_api_Range_b38_R : Pt := (.int .i64)
noncomputable def slices_IndexFunc_Lapi_Range_api_Range_b38_G : List Po := [(.cells (.int .i64))]
noncomputable def slices_IndexFunc_Lapi_Range_api_Range_b38_V (f : (List PD) → Int → Option (Int × Int)) (x : ((List PD × (Unit × Unit)) × Int)) : Option (Int × Int) := f x.1.1 x.2
noncomputable def slices_IndexFunc_Lapi_Range_api_Range_b38_C : Cal := tbl [(28, (ent account_Accept_2_67e_P account_Accept_2_67e_H account_Accept_2_67e_R account_Accept_2_67e_G (account_Accept_2_67e_V (account_Accept_2_67e))))]
theorem slices_IndexFunc_Lapi_Range_api_Range_b38_Cok : CalOK Tryd.prog slices_IndexFunc_Lapi_Range_api_Range_b38_C ∧ CalNt slices_IndexFunc_Lapi_Range_api_Range_b38_C := by
  unfold slices_IndexFunc_Lapi_Range_api_Range_b38_C
  exact tbl_ok (by
    intro p hp
    simp only [List.mem_cons, List.not_mem_nil, or_false] at hp
    rcases hp with rfl
    exact account_Accept_2_67e_ok)
noncomputable def slices_IndexFunc_Lapi_Range_api_Range_b38_FH : FH := { loops := [(2, { keep := [0, 1, 7, 8] }, { keep := [4] })] }
theorem slices_IndexFunc_Lapi_Range_api_Range_b38_l2_s (a1 : List PD) (a2 : Int) (a3 : Int) (a4 : Int) : stepC Tryd.prog slices_IndexFunc_Lapi_Range_api_Range_b38_C slices_IndexFunc_Lapi_Range_api_Range_b38_FH [] [] 1 ((loopsAt 2 (codeOf Tryd.f25)).headD .skip) slices_IndexFunc_Lapi_Range_api_Range_b38_l2p slices_IndexFunc_Lapi_Range_api_Range_b38_l2x { keep := [0, 1, 7, 8] } { keep := [4] } ((a1, ((), ()), a2, a3), a4) _ some = slices_IndexFunc_Lapi_Range_api_Range_b38_l2 ((a1, ((), ()), a2, a3), a4) := by kernel_rfl
theorem slices_IndexFunc_Lapi_Range_api_Range_b38_l2_t : ToldC Tryd.prog 1 (codeOf Tryd.f25) ((2, toldL slices_IndexFunc_Lapi_Range_api_Range_b38_l2p slices_IndexFunc_Lapi_Range_api_Range_b38_l2x slices_IndexFunc_Lapi_Range_api_Range_b38_l2) :: []) [] :=
  ToldC.loop slices_IndexFunc_Lapi_Range_api_Range_b38_FH 1 (ToldC.nil 1) slices_IndexFunc_Lapi_Range_api_Range_b38_Cok 2 ((loopsAt 2 (codeOf Tryd.f25)).headD .skip) (by kernel_rfl) (p := slices_IndexFunc_Lapi_Range_api_Range_b38_l2p) (px := slices_IndexFunc_Lapi_Range_api_Range_b38_l2x) (g := slices_IndexFunc_Lapi_Range_api_Range_b38_l2) (hi := { keep := [0, 1, 7, 8] }) (ho := { keep := [4] }) (by kernel_rfl) fun (x : ((List PD × (Unit × Unit) × Int × Int) × Int)) => slices_IndexFunc_Lapi_Range_api_Range_b38_l2_s x.1.1 x.1.2.2.1 x.1.2.2.2 x.2
theorem slices_IndexFunc_Lapi_Range_api_Range_b38_b (a1 : List PD) (a2 : Int) : bodyC Tryd.prog slices_IndexFunc_Lapi_Range_api_Range_b38_C slices_IndexFunc_Lapi_Range_api_Range_b38_FH ((2, toldL slices_IndexFunc_Lapi_Range_api_Range_b38_l2p slices_IndexFunc_Lapi_Range_api_Range_b38_l2x slices_IndexFunc_Lapi_Range_api_Range_b38_l2) :: []) [] { keep := [] } 25 slices_IndexFunc_Lapi_Range_api_Range_b38_P slices_IndexFunc_Lapi_Range_api_Range_b38_H slices_IndexFunc_Lapi_Range_api_Range_b38_R slices_IndexFunc_Lapi_Range_api_Range_b38_G ((a1, ((), ())), a2) _ some = slices_IndexFunc_Lapi_Range_api_Range_b38 a1 a2 := by kernel_rfl
theorem slices_IndexFunc_Lapi_Range_api_Range_b38_ok : EntOK Tryd.prog 25 (ent slices_IndexFunc_Lapi_Range_api_Range_b38_P slices_IndexFunc_Lapi_Range_api_Range_b38_H slices_IndexFunc_Lapi_Range_api_Range_b38_R slices_IndexFunc_Lapi_Range_api_Range_b38_G (slices_IndexFunc_Lapi_Range_api_Range_b38_V (slices_IndexFunc_Lapi_Range_api_Range_b38))) :=
  ent_ok slices_IndexFunc_Lapi_Range_api_Range_b38_FH slices_IndexFunc_Lapi_Range_api_Range_b38_Cok (hp := slices_IndexFunc_Lapi_Range_api_Range_b38_H) (fn := Tryd.f25) (by kernel_rfl) slices_IndexFunc_Lapi_Range_api_Range_b38_l2_t fun (x : ((List PD × (Unit × Unit)) × Int)) => slices_IndexFunc_Lapi_Range_api_Range_b38_b x.1.1 x.2

/-! slices_Insert_Lapi_Range_api_Range_277: slices.Insert[[]passkey/api.Range,passkey/api.Range] -/
noncomputable def slices_Insert_Lapi_Range_api_Range_277_P : Pt := (.cons (.ref 0) (.cons (.int .i64) (.ref 1)))
noncomputable def slices_Insert_Lapi_Range_api_Range_277_H : List Po := [(.arrS 2 59 2), (.arrS 2 59 2)]
noncomputable def slices_Insert_Lapi_Range_api_Range_277_R : Pt := (.ref 2)
noncomputable def slices_Insert_Lapi_Range_api_Range_277_G : List Po := [.dead, (.arrS 2 59 2), (.arrS 2 59 2)]
noncomputable def slices_Insert_Lapi_Range_api_Range_277_V (f : Int → (List PD) → (List PD) → Option (Unit × (Unit × List PD × List PD))) (x : ((Unit × Int × Unit) × (List PD × List PD))) : Option (Unit × (Unit × List PD × List PD)) := f x.1.2.1 x.2.1 x.2.2
noncomputable def slices_Insert_Lapi_Range_api_Range_277_C : Cal := tbl []
theorem slices_Insert_Lapi_Range_api_Range_277_Cok : CalOK Tryd.prog slices_Insert_Lapi_Range_api_Range_277_C ∧ CalNt slices_Insert_Lapi_Range_api_Range_277_C := by
  unfold slices_Insert_Lapi_Range_api_Range_277_C
  exact tbl_ok (by intro p hp; simp at hp)
noncomputable def slices_Insert_Lapi_Range_api_Range_277_FH : FH := { ops := [(1, [(2, .peek)])] }
theorem slices_Insert_Lapi_Range_api_Range_277_b (a1 : Int) (a2 : List PD) (a3 : List PD) : bodyC Tryd.prog slices_Insert_Lapi_Range_api_Range_277_C slices_Insert_Lapi_Range_api_Range_277_FH [] [] { keep := [] } 29 slices_Insert_Lapi_Range_api_Range_277_P slices_Insert_Lapi_Range_api_Range_277_H slices_Insert_Lapi_Range_api_Range_277_R slices_Insert_Lapi_Range_api_Range_277_G (((), a1, ()), (a2, a3)) _ some = slices_Insert_Lapi_Range_api_Range_277 a1 a2 a3 := by kernel_rfl
theorem slices_Insert_Lapi_Range_api_Range_277_ok : EntOK Tryd.prog 29 (ent slices_Insert_Lapi_Range_api_Range_277_P slices_Insert_Lapi_Range_api_Range_277_H slices_Insert_Lapi_Range_api_Range_277_R slices_Insert_Lapi_Range_api_Range_277_G (slices_Insert_Lapi_Range_api_Range_277_V (slices_Insert_Lapi_Range_api_Range_277))) :=
  ent_ok slices_Insert_Lapi_Range_api_Range_277_FH slices_Insert_Lapi_Range_api_Range_277_Cok (hp := slices_Insert_Lapi_Range_api_Range_277_H) (fn := Tryd.f29) (by kernel_rfl) (ToldC.nil 2) fun (x : ((Unit × Int × Unit) × (List PD × List PD))) => slices_Insert_Lapi_Range_api_Range_277_b x.1.2.1 x.2.1 x.2.2

/-! account_Accept: passkey/account.Accept -/
noncomputable def account_Accept_j19p : SP := { n := 104, ix := [1, 3, 4, 8, 12], p := (.cons (.int .i64) (.cons (.int .i64) (.cons (.ptr 0 0) (.cons (.ptr 1 0) (.ref 2))))), hp := [(.cells (.cons (.nums .u8) (.cons (.int .i64) (.cons (.int .u64) (.cons (.int .u64) (.cons (.int .i64) (.cons .bool (.cons (.int .u64) (.cons (.sl 2) (.cons .bool (.cons (.int .i64) (.int .i64)))))))))))), (.cells (.cons (.nums .u8) (.cons (.int .i64) (.cons (.int .u64) (.cons (.int .u64) (.cons (.int .i64) (.cons .bool (.cons (.int .u64) (.cons (.sl 2) (.cons .bool (.cons (.int .i64) (.int .i64)))))))))))), (.arrS 2 59 2)] }
noncomputable def account_Accept_j19x : List (Ex × SP) := [(.ret, { n := 104, ix := [8, 9], p := (.cons (.ptr 0 0) (.int .i64)), hp := [(.cells (.cons (.nums .u8) (.cons (.int .i64) (.cons (.int .u64) (.cons (.int .u64) (.cons (.int .i64) (.cons .bool (.cons (.int .u64) (.cons (.ref 1) (.cons .bool (.cons (.int .i64) (.int .i64)))))))))))), (.arrS 2 59 2)] })]
noncomputable def account_Accept_j18p : SP := { n := 104, ix := [1, 3, 4, 6, 8, 10, 12], p := (.cons (.int .i64) (.cons (.int .i64) (.cons (.ptr 0 0) (.cons (.ptr 1 0) (.cons (.ptr 2 0) (.cons (.int .i64) (.ref 3))))))), hp := [(.cells (.cons (.nums .u8) (.cons (.int .i64) (.cons (.int .u64) (.cons (.int .u64) (.cons (.int .i64) (.cons .bool (.cons (.int .u64) (.cons (.sl 2) (.cons .bool (.cons (.int .i64) (.int .i64)))))))))))), (.cells (.int .i64)), (.cells (.cons (.nums .u8) (.cons (.int .i64) (.cons (.int .u64) (.cons (.int .u64) (.cons (.int .i64) (.cons .bool (.cons (.int .u64) (.cons (.sl 2) (.cons .bool (.cons (.int .i64) (.int .i64)))))))))))), (.arrS 2 59 2)] }
noncomputable def account_Accept_j18x : List (Ex × SP) := [(.norm, { n := 104, ix := [1, 3, 4, 8, 12], p := (.cons (.int .i64) (.cons (.int .i64) (.cons (.ptr 0 0) (.cons (.ptr 1 0) (.ref 2))))), hp := [(.cells (.cons (.nums .u8) (.cons (.int .i64) (.cons (.int .u64) (.cons (.int .u64) (.cons (.int .i64) (.cons .bool (.cons (.int .u64) (.cons (.sl 2) (.cons .bool (.cons (.int .i64) (.int .i64)))))))))))), (.cells (.cons (.nums .u8) (.cons (.int .i64) (.cons (.int .u64) (.cons (.int .u64) (.cons (.int .i64) (.cons .bool (.cons (.int .u64) (.cons (.sl 2) (.cons .bool (.cons (.int .i64) (.int .i64)))))))))))), (.arrS 2 59 2)] })]
noncomputable def account_Accept_P : Pt := (.cons (.agg (.cons (.nums .u8) (.cons (.int .i64) (.cons (.int .u64) (.cons (.int .u64) (.cons (.int .i64) (.cons .bool (.cons (.int .u64) (.cons (.sl 2) (.cons .bool (.cons (.int .i64) (.int .i64)))))))))))) (.cons (.int .i64) (.cons (.int .i64) (.int .i64))))
noncomputable def account_Accept_H : List Po := []
noncomputable def account_Accept_R : Pt := (.tup (.cons (.agg (.cons (.nums .u8) (.cons (.int .i64) (.cons (.int .u64) (.cons (.int .u64) (.cons (.int .i64) (.cons .bool (.cons (.int .u64) (.cons (.sl 2) (.cons .bool (.cons (.int .i64) (.int .i64)))))))))))) (.int .i64)))
noncomputable def account_Accept_G : List Po := []
noncomputable def account_Accept_V (f : (List Int) → Int → Int → Int → Int → Bool → Int → (List PD) → Bool → Int → Int → Int → Int → Int → Option ((List Int × Int × Int × Int × Int × Bool × Int × List PD × Bool × Int × Int) × Int)) (x : ((List Int × Int × Int × Int × Int × Bool × Int × List PD × Bool × Int × Int) × Int × Int × Int)) : Option ((List Int × Int × Int × Int × Int × Bool × Int × List PD × Bool × Int × Int) × Int) := f x.1.1 x.1.2.1 x.1.2.2.1 x.1.2.2.2.1 x.1.2.2.2.2.1 x.1.2.2.2.2.2.1 x.1.2.2.2.2.2.2.1 x.1.2.2.2.2.2.2.2.1 x.1.2.2.2.2.2.2.2.2.1 x.1.2.2.2.2.2.2.2.2.2.1 x.1.2.2.2.2.2.2.2.2.2.2 x.2.1 x.2.2.1 x.2.2.2
noncomputable def account_Accept_C : Cal := tbl [(25, (altE slices_IndexFunc_Lapi_Range_api_Range_026_P slices_IndexFunc_Lapi_Range_api_Range_026_H slices_IndexFunc_Lapi_Range_api_Range_026_R slices_IndexFunc_Lapi_Range_api_Range_026_G (slices_IndexFunc_Lapi_Range_api_Range_026_V (slices_IndexFunc_Lapi_Range_api_Range_026)) (ent slices_IndexFunc_Lapi_Range_api_Range_b38_P slices_IndexFunc_Lapi_Range_api_Range_b38_H slices_IndexFunc_Lapi_Range_api_Range_b38_R slices_IndexFunc_Lapi_Range_api_Range_b38_G (slices_IndexFunc_Lapi_Range_api_Range_b38_V (slices_IndexFunc_Lapi_Range_api_Range_b38))))), (27, (ent slices_Clone_Lapi_Range_api_Range_P slices_Clone_Lapi_Range_api_Range_H slices_Clone_Lapi_Range_api_Range_R slices_Clone_Lapi_Range_api_Range_G (slices_Clone_Lapi_Range_api_Range_V (slices_Clone_Lapi_Range_api_Range)))), (29, (ent slices_Insert_Lapi_Range_api_Range_277_P slices_Insert_Lapi_Range_api_Range_277_H slices_Insert_Lapi_Range_api_Range_277_R slices_Insert_Lapi_Range_api_Range_277_G (slices_Insert_Lapi_Range_api_Range_277_V (slices_Insert_Lapi_Range_api_Range_277))))]
theorem account_Accept_Cok : CalOK Tryd.prog account_Accept_C ∧ CalNt account_Accept_C := by
  unfold account_Accept_C
  exact tbl_ok (by
    intro p hp
    simp only [List.mem_cons, List.not_mem_nil, or_false] at hp
    rcases hp with rfl | rfl | rfl
    · exact (altE_ok slices_IndexFunc_Lapi_Range_api_Range_026_ok slices_IndexFunc_Lapi_Range_api_Range_b38_ok)
    · exact slices_Clone_Lapi_Range_api_Range_ok
    · exact slices_Insert_Lapi_Range_api_Range_277_ok)
noncomputable def account_Accept_FH : FH := { join := [(19, { keep := [1, 3, 4, 8, 12] }), (18, { keep := [1, 3, 4, 6, 8, 10, 12] })], ops := [(15, [(2, .borrow)]), (18, [(6, (.inout [0, 2]))])] }
theorem account_Accept_j19_s (a1 : Int) (a2 : Int) (a3 : List Int) (a4 : Int) (a5 : Int) (a6 : Int) (a7 : Int) (a8 : Bool) (a9 : Int) (a10 : List PD) (a11 : Bool) (a12 : Int) (a13 : Int) (a14 : List Int) (a15 : Int) (a16 : Int) (a17 : Int) (a18 : Int) (a19 : Bool) (a20 : Int) (a21 : List PD) (a22 : Bool) (a23 : Int) (a24 : Int) (a25 : List PD) : joinC Tryd.prog account_Accept_C account_Accept_FH [] [] 0 ((joinsAt 19 (codeOf Tryd.f10)).headD .skip) account_Accept_j19p account_Accept_j19x { keep := [8, 9] } ((a1, a2, (), (), ()), ((a3, a4, a5, a6, a7, a8, a9, a10, a11, a12, a13), (a14, a15, a16, a17, a18, a19, a20, a21, a22, a23, a24), a25)) _ some = account_Accept_j19 ((a1, a2, (), (), ()), ((a3, a4, a5, a6, a7, a8, a9, a10, a11, a12, a13), (a14, a15, a16, a17, a18, a19, a20, a21, a22, a23, a24), a25)) := by kernel_rfl
theorem account_Accept_j19_t : ToldC Tryd.prog 0 (codeOf Tryd.f10) [] ((19, toldJ account_Accept_j19p account_Accept_j19x account_Accept_j19) :: []) :=
  ToldC.join account_Accept_FH 0 (ToldC.nil 0) account_Accept_Cok 19 ((joinsAt 19 (codeOf Tryd.f10)).headD .skip) (by kernel_rfl) (p := account_Accept_j19p) (px := account_Accept_j19x) (g := account_Accept_j19) (ho := { keep := [8, 9] }) fun (x : ((Int × Int × Unit × Unit × Unit) × ((List Int × Int × Int × Int × Int × Bool × Int × List PD × Bool × Int × Int) × (List Int × Int × Int × Int × Int × Bool × Int × List PD × Bool × Int × Int) × List PD))) => account_Accept_j19_s x.1.1 x.1.2.1 x.2.1.1 x.2.1.2.1 x.2.1.2.2.1 x.2.1.2.2.2.1 x.2.1.2.2.2.2.1 x.2.1.2.2.2.2.2.1 x.2.1.2.2.2.2.2.2.1 x.2.1.2.2.2.2.2.2.2.1 x.2.1.2.2.2.2.2.2.2.2.1 x.2.1.2.2.2.2.2.2.2.2.2.1 x.2.1.2.2.2.2.2.2.2.2.2.2 x.2.2.1.1 x.2.2.1.2.1 x.2.2.1.2.2.1 x.2.2.1.2.2.2.1 x.2.2.1.2.2.2.2.1 x.2.2.1.2.2.2.2.2.1 x.2.2.1.2.2.2.2.2.2.1 x.2.2.1.2.2.2.2.2.2.2.1 x.2.2.1.2.2.2.2.2.2.2.2.1 x.2.2.1.2.2.2.2.2.2.2.2.2.1 x.2.2.1.2.2.2.2.2.2.2.2.2.2 x.2.2.2
theorem account_Accept_j18_s (a1 : Int) (a2 : Int) (a3 : Int) (a4 : List Int) (a5 : Int) (a6 : Int) (a7 : Int) (a8 : Int) (a9 : Bool) (a10 : Int) (a11 : List PD) (a12 : Bool) (a13 : Int) (a14 : Int) (a15 : Int) (a16 : List Int) (a17 : Int) (a18 : Int) (a19 : Int) (a20 : Int) (a21 : Bool) (a22 : Int) (a23 : List PD) (a24 : Bool) (a25 : Int) (a26 : Int) (a27 : List PD) : joinC Tryd.prog account_Accept_C account_Accept_FH [] ((19, toldJ account_Accept_j19p account_Accept_j19x account_Accept_j19) :: []) 0 ((joinsAt 18 (codeOf Tryd.f10)).headD .skip) account_Accept_j18p account_Accept_j18x { keep := [1, 3, 4, 8, 9, 12] } ((a1, a2, (), (), (), a3, ()), ((a4, a5, a6, a7, a8, a9, a10, a11, a12, a13, a14), a15, (a16, a17, a18, a19, a20, a21, a22, a23, a24, a25, a26), a27)) _ some = account_Accept_j18 ((a1, a2, (), (), (), a3, ()), ((a4, a5, a6, a7, a8, a9, a10, a11, a12, a13, a14), a15, (a16, a17, a18, a19, a20, a21, a22, a23, a24, a25, a26), a27)) := by kernel_rfl
theorem account_Accept_j18_t : ToldC Tryd.prog 0 (codeOf Tryd.f10) [] ((18, toldJ account_Accept_j18p account_Accept_j18x account_Accept_j18) :: ((19, toldJ account_Accept_j19p account_Accept_j19x account_Accept_j19) :: [])) :=
  ToldC.join account_Accept_FH 0 account_Accept_j19_t account_Accept_Cok 18 ((joinsAt 18 (codeOf Tryd.f10)).headD .skip) (by kernel_rfl) (p := account_Accept_j18p) (px := account_Accept_j18x) (g := account_Accept_j18) (ho := { keep := [1, 3, 4, 8, 9, 12] }) fun (x : ((Int × Int × Unit × Unit × Unit × Int × Unit) × ((List Int × Int × Int × Int × Int × Bool × Int × List PD × Bool × Int × Int) × Int × (List Int × Int × Int × Int × Int × Bool × Int × List PD × Bool × Int × Int) × List PD))) => account_Accept_j18_s x.1.1 x.1.2.1 x.1.2.2.2.2.2.1 x.2.1.1 x.2.1.2.1 x.2.1.2.2.1 x.2.1.2.2.2.1 x.2.1.2.2.2.2.1 x.2.1.2.2.2.2.2.1 x.2.1.2.2.2.2.2.2.1 x.2.1.2.2.2.2.2.2.2.1 x.2.1.2.2.2.2.2.2.2.2.1 x.2.1.2.2.2.2.2.2.2.2.2.1 x.2.1.2.2.2.2.2.2.2.2.2.2 x.2.2.1 x.2.2.2.1.1 x.2.2.2.1.2.1 x.2.2.2.1.2.2.1 x.2.2.2.1.2.2.2.1 x.2.2.2.1.2.2.2.2.1 x.2.2.2.1.2.2.2.2.2.1 x.2.2.2.1.2.2.2.2.2.2.1 x.2.2.2.1.2.2.2.2.2.2.2.1 x.2.2.2.1.2.2.2.2.2.2.2.2.1 x.2.2.2.1.2.2.2.2.2.2.2.2.2.1 x.2.2.2.1.2.2.2.2.2.2.2.2.2.2 x.2.2.2.2
theorem account_Accept_b (a1 : List Int) (a2 : Int) (a3 : Int) (a4 : Int) (a5 : Int) (a6 : Bool) (a7 : Int) (a8 : List PD) (a9 : Bool) (a10 : Int) (a11 : Int) (a12 : Int) (a13 : Int) (a14 : Int) : bodyC Tryd.prog account_Accept_C account_Accept_FH [] ((18, toldJ account_Accept_j18p account_Accept_j18x account_Accept_j18) :: ((19, toldJ account_Accept_j19p account_Accept_j19x account_Accept_j19) :: [])) { keep := [], fz := [0] } 10 account_Accept_P account_Accept_H account_Accept_R account_Accept_G ((a1, a2, a3, a4, a5, a6, a7, a8, a9, a10, a11), a12, a13, a14) _ some = account_Accept a1 a2 a3 a4 a5 a6 a7 a8 a9 a10 a11 a12 a13 a14 := by kernel_rfl
theorem account_Accept_ok : EntOK Tryd.prog 10 (ent account_Accept_P account_Accept_H account_Accept_R account_Accept_G (account_Accept_V (account_Accept))) :=
  ent_ok account_Accept_FH account_Accept_Cok (hp := account_Accept_H) (fn := Tryd.f10) (by kernel_rfl) account_Accept_j18_t fun (x : ((List Int × Int × Int × Int × Int × Bool × Int × List PD × Bool × Int × Int) × Int × Int × Int)) => account_Accept_b x.1.1 x.1.2.1 x.1.2.2.1 x.1.2.2.2.1 x.1.2.2.2.2.1 x.1.2.2.2.2.2.1 x.1.2.2.2.2.2.2.1 x.1.2.2.2.2.2.2.2.1 x.1.2.2.2.2.2.2.2.2.1 x.1.2.2.2.2.2.2.2.2.2.1 x.1.2.2.2.2.2.2.2.2.2.2 x.2.1 x.2.2.1 x.2.2.2

/-! account_index: passkey/account.index -/
noncomputable def account_index_l2p : SP := { n := 23, ix := [1, 8, 9, 10], p := (.cons (.nums .u8) (.cons (.sl 11) (.cons (.int .i64) (.int .i64)))) }
noncomputable def account_index_l2x : List (Ex × SP) := [(.ret, { n := 23, ix := [4], p := (.int .i64) }), ((.exit 0), { n := 23, ix := [], p := .nil })]
noncomputable def account_index_P : Pt := (.cons (.agg (.cons .str (.cons .str (.sl 11)))) (.nums .u8))
noncomputable def account_index_H : List Po := []
noncomputable def account_index_R : Pt := (.int .i64)
noncomputable def account_index_G : List Po := []
noncomputable def account_index_V (f : ByteArray → ByteArray → (List PD) → (List Int) → Option Int) (x : ((ByteArray × ByteArray × List PD) × List Int)) : Option Int := f x.1.1 x.1.2.1 x.1.2.2 x.2
noncomputable def account_index_C : Cal := tbl []
theorem account_index_Cok : CalOK Tryd.prog account_index_C ∧ CalNt account_index_C := by
  unfold account_index_C
  exact tbl_ok (by intro p hp; simp at hp)
noncomputable def account_index_FH : FH := { loops := [(2, { keep := [1, 8, 9, 10] }, { keep := [4] })] }
theorem account_index_l2_s (a1 : List Int) (a2 : List PD) (a3 : Int) (a4 : Int) : stepC Tryd.prog account_index_C account_index_FH [] [] 0 ((loopsAt 2 (codeOf Tryd.f50)).headD .skip) account_index_l2p account_index_l2x { keep := [1, 8, 9, 10] } { keep := [4] } (a1, a2, a3, a4) _ some = account_index_l2 (a1, a2, a3, a4) := by kernel_rfl
theorem account_index_l2_t : ToldC Tryd.prog 0 (codeOf Tryd.f50) ((2, toldL account_index_l2p account_index_l2x account_index_l2) :: []) [] :=
  ToldC.loop account_index_FH 0 (ToldC.nil 0) account_index_Cok 2 ((loopsAt 2 (codeOf Tryd.f50)).headD .skip) (by kernel_rfl) (p := account_index_l2p) (px := account_index_l2x) (g := account_index_l2) (hi := { keep := [1, 8, 9, 10] }) (ho := { keep := [4] }) (by kernel_rfl) fun (x : (List Int × List PD × Int × Int)) => account_index_l2_s x.1 x.2.1 x.2.2.1 x.2.2.2
theorem account_index_b (a1 : ByteArray) (a2 : ByteArray) (a3 : List PD) (a4 : List Int) : bodyC Tryd.prog account_index_C account_index_FH ((2, toldL account_index_l2p account_index_l2x account_index_l2) :: []) [] { keep := [] } 50 account_index_P account_index_H account_index_R account_index_G ((a1, a2, a3), a4) _ some = account_index a1 a2 a3 a4 := by kernel_rfl
theorem account_index_ok : EntOK Tryd.prog 50 (ent account_index_P account_index_H account_index_R account_index_G (account_index_V (account_index))) :=
  ent_ok account_index_FH account_index_Cok (hp := account_index_H) (fn := Tryd.f50) (by kernel_rfl) account_index_l2_t fun (x : ((ByteArray × ByteArray × List PD) × List Int)) => account_index_b x.1.1 x.1.2.1 x.1.2.2 x.2

/-! account_Owner: passkey/account.Owner -/
noncomputable def account_Owner_l2p : SP := { n := 25, ix := [1, 10, 11, 12], p := (.cons (.nums .u8) (.cons (.sl 3) (.cons (.int .i64) (.int .i64)))) }
noncomputable def account_Owner_l2x : List (Ex × SP) := [(.ret, { n := 25, ix := [4, 5, 6], p := (.cons (.int .i64) (.cons (.int .i64) .bool)) }), ((.exit 0), { n := 25, ix := [], p := .nil })]
noncomputable def account_Owner_P : Pt := (.cons (.sl 3) (.nums .u8))
noncomputable def account_Owner_H : List Po := []
noncomputable def account_Owner_R : Pt := (.tup (.cons (.int .i64) (.cons (.int .i64) .bool)))
noncomputable def account_Owner_G : List Po := []
noncomputable def account_Owner_V (f : (List PD) → (List Int) → Option (Int × Int × Bool)) (x : (List PD × List Int)) : Option (Int × Int × Bool) := f x.1 x.2
noncomputable def account_Owner_C : Cal := tbl [(50, (ent account_index_P account_index_H account_index_R account_index_G (account_index_V (account_index))))]
theorem account_Owner_Cok : CalOK Tryd.prog account_Owner_C ∧ CalNt account_Owner_C := by
  unfold account_Owner_C
  exact tbl_ok (by
    intro p hp
    simp only [List.mem_cons, List.not_mem_nil, or_false] at hp
    rcases hp with rfl
    exact account_index_ok)
noncomputable def account_Owner_FH : FH := { loops := [(2, { keep := [1, 10, 11, 12] }, { keep := [4, 5, 6] })] }
theorem account_Owner_l2_s (a1 : List Int) (a2 : List PD) (a3 : Int) (a4 : Int) : stepC Tryd.prog account_Owner_C account_Owner_FH [] [] 0 ((loopsAt 2 (codeOf Tryd.f32)).headD .skip) account_Owner_l2p account_Owner_l2x { keep := [1, 10, 11, 12] } { keep := [4, 5, 6] } (a1, a2, a3, a4) _ some = account_Owner_l2 (a1, a2, a3, a4) := by kernel_rfl
theorem account_Owner_l2_t : ToldC Tryd.prog 0 (codeOf Tryd.f32) ((2, toldL account_Owner_l2p account_Owner_l2x account_Owner_l2) :: []) [] :=
  ToldC.loop account_Owner_FH 0 (ToldC.nil 0) account_Owner_Cok 2 ((loopsAt 2 (codeOf Tryd.f32)).headD .skip) (by kernel_rfl) (p := account_Owner_l2p) (px := account_Owner_l2x) (g := account_Owner_l2) (hi := { keep := [1, 10, 11, 12] }) (ho := { keep := [4, 5, 6] }) (by kernel_rfl) fun (x : (List Int × List PD × Int × Int)) => account_Owner_l2_s x.1 x.2.1 x.2.2.1 x.2.2.2
theorem account_Owner_b (a1 : List PD) (a2 : List Int) : bodyC Tryd.prog account_Owner_C account_Owner_FH ((2, toldL account_Owner_l2p account_Owner_l2x account_Owner_l2) :: []) [] { keep := [] } 32 account_Owner_P account_Owner_H account_Owner_R account_Owner_G (a1, a2) _ some = account_Owner a1 a2 := by kernel_rfl
theorem account_Owner_ok : EntOK Tryd.prog 32 (ent account_Owner_P account_Owner_H account_Owner_R account_Owner_G (account_Owner_V (account_Owner))) :=
  ent_ok account_Owner_FH account_Owner_Cok (hp := account_Owner_H) (fn := Tryd.f32) (by kernel_rfl) account_Owner_l2_t fun (x : (List PD × List Int)) => account_Owner_b x.1 x.2

/-! account_Find: passkey/account.Find -/
noncomputable def account_Find_l2p : SP := { n := 21, ix := [1, 8, 9, 10], p := (.cons .str (.cons (.sl 3) (.cons (.int .i64) (.int .i64)))) }
noncomputable def account_Find_l2x : List (Ex × SP) := [(.ret, { n := 21, ix := [4, 5], p := (.cons (.int .i64) .bool) }), ((.exit 0), { n := 21, ix := [], p := .nil })]
noncomputable def account_Find_P : Pt := (.cons (.sl 3) .str)
noncomputable def account_Find_H : List Po := []
noncomputable def account_Find_R : Pt := (.tup (.cons (.int .i64) .bool))
noncomputable def account_Find_G : List Po := []
noncomputable def account_Find_V (f : (List PD) → ByteArray → Option (Int × Bool)) (x : (List PD × ByteArray)) : Option (Int × Bool) := f x.1 x.2
noncomputable def account_Find_C : Cal := tbl []
theorem account_Find_Cok : CalOK Tryd.prog account_Find_C ∧ CalNt account_Find_C := by
  unfold account_Find_C
  exact tbl_ok (by intro p hp; simp at hp)
noncomputable def account_Find_FH : FH := { loops := [(2, { keep := [1, 8, 9, 10] }, { keep := [4, 5] })] }
theorem account_Find_l2_s (a1 : ByteArray) (a2 : List PD) (a3 : Int) (a4 : Int) : stepC Tryd.prog account_Find_C account_Find_FH [] [] 0 ((loopsAt 2 (codeOf Tryd.f13)).headD .skip) account_Find_l2p account_Find_l2x { keep := [1, 8, 9, 10] } { keep := [4, 5] } (a1, a2, a3, a4) _ some = account_Find_l2 (a1, a2, a3, a4) := by kernel_rfl
theorem account_Find_l2_t : ToldC Tryd.prog 0 (codeOf Tryd.f13) ((2, toldL account_Find_l2p account_Find_l2x account_Find_l2) :: []) [] :=
  ToldC.loop account_Find_FH 0 (ToldC.nil 0) account_Find_Cok 2 ((loopsAt 2 (codeOf Tryd.f13)).headD .skip) (by kernel_rfl) (p := account_Find_l2p) (px := account_Find_l2x) (g := account_Find_l2) (hi := { keep := [1, 8, 9, 10] }) (ho := { keep := [4, 5] }) (by kernel_rfl) fun (x : (ByteArray × List PD × Int × Int)) => account_Find_l2_s x.1 x.2.1 x.2.2.1 x.2.2.2
theorem account_Find_b (a1 : List PD) (a2 : ByteArray) : bodyC Tryd.prog account_Find_C account_Find_FH ((2, toldL account_Find_l2p account_Find_l2x account_Find_l2) :: []) [] { keep := [] } 13 account_Find_P account_Find_H account_Find_R account_Find_G (a1, a2) _ some = account_Find a1 a2 := by kernel_rfl
theorem account_Find_ok : EntOK Tryd.prog 13 (ent account_Find_P account_Find_H account_Find_R account_Find_G (account_Find_V (account_Find))) :=
  ent_ok account_Find_FH account_Find_Cok (hp := account_Find_H) (fn := Tryd.f13) (by kernel_rfl) account_Find_l2_t fun (x : (List PD × ByteArray)) => account_Find_b x.1 x.2

/-! slices_Clone_Lapi_Stored_api_Stored: slices.Clone[[]passkey/api.Stored,passkey/api.Stored] -/
noncomputable def slices_Clone_Lapi_Stored_api_Stored_P : Pt := (.sl 11)
noncomputable def slices_Clone_Lapi_Stored_api_Stored_H : List Po := []
noncomputable def slices_Clone_Lapi_Stored_api_Stored_R : Pt := (.ref 0)
noncomputable def slices_Clone_Lapi_Stored_api_Stored_G : List Po := [(.arrS 11 34 11)]
noncomputable def slices_Clone_Lapi_Stored_api_Stored_V (f : (List PD) → Option (Unit × List PD)) (x : List PD) : Option (Unit × List PD) := f x
noncomputable def slices_Clone_Lapi_Stored_api_Stored_C : Cal := tbl []
theorem slices_Clone_Lapi_Stored_api_Stored_Cok : CalOK Tryd.prog slices_Clone_Lapi_Stored_api_Stored_C ∧ CalNt slices_Clone_Lapi_Stored_api_Stored_C := by
  unfold slices_Clone_Lapi_Stored_api_Stored_C
  exact tbl_ok (by intro p hp; simp at hp)
noncomputable def slices_Clone_Lapi_Stored_api_Stored_FH : FH := {}
theorem slices_Clone_Lapi_Stored_api_Stored_b (a1 : List PD) : bodyC Tryd.prog slices_Clone_Lapi_Stored_api_Stored_C slices_Clone_Lapi_Stored_api_Stored_FH [] [] { keep := [], own := [(0, 34)] } 51 slices_Clone_Lapi_Stored_api_Stored_P slices_Clone_Lapi_Stored_api_Stored_H slices_Clone_Lapi_Stored_api_Stored_R slices_Clone_Lapi_Stored_api_Stored_G a1 _ some = slices_Clone_Lapi_Stored_api_Stored a1 := by kernel_rfl
theorem slices_Clone_Lapi_Stored_api_Stored_ok : EntOK Tryd.prog 51 (ent slices_Clone_Lapi_Stored_api_Stored_P slices_Clone_Lapi_Stored_api_Stored_H slices_Clone_Lapi_Stored_api_Stored_R slices_Clone_Lapi_Stored_api_Stored_G (slices_Clone_Lapi_Stored_api_Stored_V (slices_Clone_Lapi_Stored_api_Stored))) :=
  ent_ok slices_Clone_Lapi_Stored_api_Stored_FH slices_Clone_Lapi_Stored_api_Stored_Cok (hp := slices_Clone_Lapi_Stored_api_Stored_H) (fn := Tryd.f51) (by kernel_rfl) (ToldC.nil 0) fun (x : List PD) => slices_Clone_Lapi_Stored_api_Stored_b x

/-! account_clone: passkey/account.clone -/
noncomputable def account_clone_l3p : SP := { n := 26, ix := [3, 9, 10, 11], p := (.cons (.ref 0) (.cons (.sl 3) (.cons (.int .i64) (.int .i64)))), hp := [(.arrS 3 50 3)] }
noncomputable def account_clone_l3x : List (Ex × SP) := [((.exit 0), { n := 26, ix := [3], p := (.ref 0), hp := [(.arrS 3 50 3)] })]
noncomputable def account_clone_P : Pt := (.sl 3)
noncomputable def account_clone_H : List Po := []
noncomputable def account_clone_R : Pt := (.ref 0)
noncomputable def account_clone_G : List Po := [(.arrS 3 50 3)]
noncomputable def account_clone_V (f : (List PD) → Option (Unit × List PD)) (x : List PD) : Option (Unit × List PD) := f x
noncomputable def account_clone_C : Cal := tbl [(51, (ent slices_Clone_Lapi_Stored_api_Stored_P slices_Clone_Lapi_Stored_api_Stored_H slices_Clone_Lapi_Stored_api_Stored_R slices_Clone_Lapi_Stored_api_Stored_G (slices_Clone_Lapi_Stored_api_Stored_V (slices_Clone_Lapi_Stored_api_Stored))))]
theorem account_clone_Cok : CalOK Tryd.prog account_clone_C ∧ CalNt account_clone_C := by
  unfold account_clone_C
  exact tbl_ok (by
    intro p hp
    simp only [List.mem_cons, List.not_mem_nil, or_false] at hp
    rcases hp with rfl
    exact slices_Clone_Lapi_Stored_api_Stored_ok)
noncomputable def account_clone_FH : FH := { loops := [(3, { keep := [3, 9, 10, 11] }, { keep := [2, 3] })] }
theorem account_clone_l3_s (a1 : List PD) (a2 : Int) (a3 : Int) (a4 : List PD) : stepC Tryd.prog account_clone_C account_clone_FH [] [] 0 ((loopsAt 3 (codeOf Tryd.f33)).headD .skip) account_clone_l3p account_clone_l3x { keep := [3, 9, 10, 11] } { keep := [2, 3] } (((), a1, a2, a3), a4) _ some = account_clone_l3 (((), a1, a2, a3), a4) := by kernel_rfl
theorem account_clone_l3_t : ToldC Tryd.prog 0 (codeOf Tryd.f33) ((3, toldL account_clone_l3p account_clone_l3x account_clone_l3) :: []) [] :=
  ToldC.loop account_clone_FH 0 (ToldC.nil 0) account_clone_Cok 3 ((loopsAt 3 (codeOf Tryd.f33)).headD .skip) (by kernel_rfl) (p := account_clone_l3p) (px := account_clone_l3x) (g := account_clone_l3) (hi := { keep := [3, 9, 10, 11] }) (ho := { keep := [2, 3] }) (by kernel_rfl) fun (x : ((Unit × List PD × Int × Int) × List PD)) => account_clone_l3_s x.1.2.1 x.1.2.2.1 x.1.2.2.2 x.2
theorem account_clone_b (a1 : List PD) : bodyC Tryd.prog account_clone_C account_clone_FH ((3, toldL account_clone_l3p account_clone_l3x account_clone_l3) :: []) [] { keep := [] } 33 account_clone_P account_clone_H account_clone_R account_clone_G a1 _ some = account_clone a1 := by kernel_rfl
theorem account_clone_ok : EntOK Tryd.prog 33 (ent account_clone_P account_clone_H account_clone_R account_clone_G (account_clone_V (account_clone))) :=
  ent_ok account_clone_FH account_clone_Cok (hp := account_clone_H) (fn := Tryd.f33) (by kernel_rfl) account_clone_l3_t fun (x : List PD) => account_clone_b x

/-! account_Enroll: passkey/account.Enroll -/
noncomputable def account_Enroll_P : Pt := (.cons (.sl 3) (.cons .str (.cons .str (.agg (.cons (.nums .u8) (.cons (.int .i64) (.cons (.int .u64) (.cons (.int .u64) (.cons (.int .i64) (.cons .bool (.cons (.int .u64) (.cons (.sl 2) (.cons .bool (.cons (.int .i64) (.int .i64)))))))))))))))
noncomputable def account_Enroll_H : List Po := []
noncomputable def account_Enroll_R : Pt := (.tup (.cons (.ref 0) (.int .i64)))
noncomputable def account_Enroll_G : List Po := [(.arrS 3 50 3)]
noncomputable def account_Enroll_V (f : (List PD) → ByteArray → ByteArray → (List Int) → Int → Int → Int → Int → Bool → Int → (List PD) → Bool → Int → Int → Option ((Unit × Int) × List PD)) (x : (List PD × ByteArray × ByteArray × (List Int × Int × Int × Int × Int × Bool × Int × List PD × Bool × Int × Int))) : Option ((Unit × Int) × List PD) := f x.1 x.2.1 x.2.2.1 x.2.2.2.1 x.2.2.2.2.1 x.2.2.2.2.2.1 x.2.2.2.2.2.2.1 x.2.2.2.2.2.2.2.1 x.2.2.2.2.2.2.2.2.1 x.2.2.2.2.2.2.2.2.2.1 x.2.2.2.2.2.2.2.2.2.2.1 x.2.2.2.2.2.2.2.2.2.2.2.1 x.2.2.2.2.2.2.2.2.2.2.2.2.1 x.2.2.2.2.2.2.2.2.2.2.2.2.2
noncomputable def account_Enroll_C : Cal := tbl [(32, (ent account_Owner_P account_Owner_H account_Owner_R account_Owner_G (account_Owner_V (account_Owner)))), (13, (ent account_Find_P account_Find_H account_Find_R account_Find_G (account_Find_V (account_Find)))), (33, (ent account_clone_P account_clone_H account_clone_R account_clone_G (account_clone_V (account_clone))))]
theorem account_Enroll_Cok : CalOK Tryd.prog account_Enroll_C ∧ CalNt account_Enroll_C := by
  unfold account_Enroll_C
  exact tbl_ok (by
    intro p hp
    simp only [List.mem_cons, List.not_mem_nil, or_false] at hp
    rcases hp with rfl | rfl | rfl
    · exact account_Owner_ok
    · exact account_Find_ok
    · exact account_clone_ok)
noncomputable def account_Enroll_FH : FH := {}
theorem account_Enroll_b (a1 : List PD) (a2 : ByteArray) (a3 : ByteArray) (a4 : List Int) (a5 : Int) (a6 : Int) (a7 : Int) (a8 : Int) (a9 : Bool) (a10 : Int) (a11 : List PD) (a12 : Bool) (a13 : Int) (a14 : Int) : bodyC Tryd.prog account_Enroll_C account_Enroll_FH [] [] { keep := [], own := [(0, 50)] } 12 account_Enroll_P account_Enroll_H account_Enroll_R account_Enroll_G (a1, a2, a3, (a4, a5, a6, a7, a8, a9, a10, a11, a12, a13, a14)) _ some = account_Enroll a1 a2 a3 a4 a5 a6 a7 a8 a9 a10 a11 a12 a13 a14 := by kernel_rfl
theorem account_Enroll_ok : EntOK Tryd.prog 12 (ent account_Enroll_P account_Enroll_H account_Enroll_R account_Enroll_G (account_Enroll_V (account_Enroll))) :=
  ent_ok account_Enroll_FH account_Enroll_Cok (hp := account_Enroll_H) (fn := Tryd.f12) (by kernel_rfl) (ToldC.nil 0) fun (x : (List PD × ByteArray × ByteArray × (List Int × Int × Int × Int × Int × Bool × Int × List PD × Bool × Int × Int))) => account_Enroll_b x.1 x.2.1 x.2.2.1 x.2.2.2.1 x.2.2.2.2.1 x.2.2.2.2.2.1 x.2.2.2.2.2.2.1 x.2.2.2.2.2.2.2.1 x.2.2.2.2.2.2.2.2.1 x.2.2.2.2.2.2.2.2.2.1 x.2.2.2.2.2.2.2.2.2.2.1 x.2.2.2.2.2.2.2.2.2.2.2.1 x.2.2.2.2.2.2.2.2.2.2.2.2.1 x.2.2.2.2.2.2.2.2.2.2.2.2.2

/-! slices_Clone_Lbyte_byte: slices.Clone[[]byte,byte] -/
noncomputable def slices_Clone_Lbyte_byte_P : Pt := (.nums .u8)
noncomputable def slices_Clone_Lbyte_byte_H : List Po := []
noncomputable def slices_Clone_Lbyte_byte_R : Pt := (.ref 0)
noncomputable def slices_Clone_Lbyte_byte_G : List Po := [(.arrN 1 5 .u8)]
noncomputable def slices_Clone_Lbyte_byte_V (f : (List Int) → Option (Unit × List Int)) (x : List Int) : Option (Unit × List Int) := f x
noncomputable def slices_Clone_Lbyte_byte_C : Cal := tbl []
theorem slices_Clone_Lbyte_byte_Cok : CalOK Tryd.prog slices_Clone_Lbyte_byte_C ∧ CalNt slices_Clone_Lbyte_byte_C := by
  unfold slices_Clone_Lbyte_byte_C
  exact tbl_ok (by intro p hp; simp at hp)
noncomputable def slices_Clone_Lbyte_byte_FH : FH := {}
theorem slices_Clone_Lbyte_byte_b (a1 : List Int) : bodyC Tryd.prog slices_Clone_Lbyte_byte_C slices_Clone_Lbyte_byte_FH [] [] { keep := [], own := [(0, 5)] } 18 slices_Clone_Lbyte_byte_P slices_Clone_Lbyte_byte_H slices_Clone_Lbyte_byte_R slices_Clone_Lbyte_byte_G a1 _ some = slices_Clone_Lbyte_byte a1 := by kernel_rfl
theorem slices_Clone_Lbyte_byte_ok : EntOK Tryd.prog 18 (ent slices_Clone_Lbyte_byte_P slices_Clone_Lbyte_byte_H slices_Clone_Lbyte_byte_R slices_Clone_Lbyte_byte_G (slices_Clone_Lbyte_byte_V (slices_Clone_Lbyte_byte))) :=
  ent_ok slices_Clone_Lbyte_byte_FH slices_Clone_Lbyte_byte_Cok (hp := slices_Clone_Lbyte_byte_H) (fn := Tryd.f18) (by kernel_rfl) (ToldC.nil 0) fun (x : List Int) => slices_Clone_Lbyte_byte_b x

/-! digest_little: passkey/digest.little -/
noncomputable def digest_little_l3p : SP := { n := 22, ix := [3, 6, 7, 8], p := (.cons (.int .u64) (.cons (.nums .u8) (.cons (.int .i64) (.int .i64)))) }
noncomputable def digest_little_l3x : List (Ex × SP) := [((.exit 0), { n := 22, ix := [3], p := (.int .u64) })]
noncomputable def digest_little_P : Pt := (.nums .u8)
noncomputable def digest_little_H : List Po := []
noncomputable def digest_little_R : Pt := (.int .u64)
noncomputable def digest_little_G : List Po := []
noncomputable def digest_little_V (f : (List Int) → Option Int) (x : List Int) : Option Int := f x
noncomputable def digest_little_C : Cal := tbl []
theorem digest_little_Cok : CalOK Tryd.prog digest_little_C ∧ CalNt digest_little_C := by
  unfold digest_little_C
  exact tbl_ok (by intro p hp; simp at hp)
noncomputable def digest_little_FH : FH := { loops := [(3, { keep := [3, 6, 7, 8] }, { keep := [2, 3] })] }
theorem digest_little_l3_s (a1 : Int) (a2 : List Int) (a3 : Int) (a4 : Int) : stepC Tryd.prog digest_little_C digest_little_FH [] [] 0 ((loopsAt 3 (codeOf Tryd.f57)).headD .skip) digest_little_l3p digest_little_l3x { keep := [3, 6, 7, 8] } { keep := [2, 3] } (a1, a2, a3, a4) _ some = digest_little_l3 (a1, a2, a3, a4) := by kernel_rfl
theorem digest_little_l3_t : ToldC Tryd.prog 0 (codeOf Tryd.f57) ((3, toldL digest_little_l3p digest_little_l3x digest_little_l3) :: []) [] :=
  ToldC.loop digest_little_FH 0 (ToldC.nil 0) digest_little_Cok 3 ((loopsAt 3 (codeOf Tryd.f57)).headD .skip) (by kernel_rfl) (p := digest_little_l3p) (px := digest_little_l3x) (g := digest_little_l3) (hi := { keep := [3, 6, 7, 8] }) (ho := { keep := [2, 3] }) (by kernel_rfl) fun (x : (Int × List Int × Int × Int)) => digest_little_l3_s x.1 x.2.1 x.2.2.1 x.2.2.2
theorem digest_little_b (a1 : List Int) : bodyC Tryd.prog digest_little_C digest_little_FH ((3, toldL digest_little_l3p digest_little_l3x digest_little_l3) :: []) [] { keep := [] } 57 digest_little_P digest_little_H digest_little_R digest_little_G a1 _ some = digest_little a1 := by kernel_rfl
theorem digest_little_ok : EntOK Tryd.prog 57 (ent digest_little_P digest_little_H digest_little_R digest_little_G (digest_little_V (digest_little))) :=
  ent_ok digest_little_FH digest_little_Cok (hp := digest_little_H) (fn := Tryd.f57) (by kernel_rfl) digest_little_l3_t fun (x : List Int) => digest_little_b x

/-! bits_RotateLeft64: math/bits.RotateLeft64 -/
noncomputable def bits_RotateLeft64_P : Pt := (.cons (.int .u64) (.int .i64))
noncomputable def bits_RotateLeft64_H : List Po := []
noncomputable def bits_RotateLeft64_R : Pt := (.int .u64)
noncomputable def bits_RotateLeft64_G : List Po := []
noncomputable def bits_RotateLeft64_V (f : Int → Int → Option Int) (x : (Int × Int)) : Option Int := f x.1 x.2
noncomputable def bits_RotateLeft64_C : Cal := tbl []
theorem bits_RotateLeft64_Cok : CalOK Tryd.prog bits_RotateLeft64_C ∧ CalNt bits_RotateLeft64_C := by
  unfold bits_RotateLeft64_C
  exact tbl_ok (by intro p hp; simp at hp)
noncomputable def bits_RotateLeft64_FH : FH := {}
theorem bits_RotateLeft64_b (a1 : Int) (a2 : Int) : bodyC Tryd.prog bits_RotateLeft64_C bits_RotateLeft64_FH [] [] { keep := [] } 81 bits_RotateLeft64_P bits_RotateLeft64_H bits_RotateLeft64_R bits_RotateLeft64_G (a1, a2) _ some = bits_RotateLeft64 a1 a2 := by kernel_rfl
theorem bits_RotateLeft64_ok : EntOK Tryd.prog 81 (ent bits_RotateLeft64_P bits_RotateLeft64_H bits_RotateLeft64_R bits_RotateLeft64_G (bits_RotateLeft64_V (bits_RotateLeft64))) :=
  ent_ok bits_RotateLeft64_FH bits_RotateLeft64_Cok (hp := bits_RotateLeft64_H) (fn := Tryd.f81) (by kernel_rfl) (ToldC.nil 0) fun (x : (Int × Int)) => bits_RotateLeft64_b x.1 x.2

/-! digest_state_round_a4e: (*passkey/digest.state).round -/
noncomputable def digest_state_round_a4e_l1p : SP := { n := 120, ix := [0, 4, 5], p := (.cons (.ptr 0 0) (.cons (.int .i64) (.int .i64))), hp := [(.cells (.cons (.int .u64) (.cons (.int .u64) (.cons (.int .u64) (.int .u64)))))] }
noncomputable def digest_state_round_a4e_l1x : List (Ex × SP) := [((.exit 0), { n := 120, ix := [], p := .nil, hp := [(.cells (.cons (.int .u64) (.cons (.int .u64) (.cons (.int .u64) (.int .u64)))))] })]
noncomputable def digest_state_round_a4e_P : Pt := (.cons (.ptr 0 0) (.int .i64))
noncomputable def digest_state_round_a4e_H : List Po := [(.cells (.cons (.int .u64) (.cons (.int .u64) (.cons (.int .u64) (.int .u64)))))]
noncomputable def digest_state_round_a4e_R : Pt := (.tup .nil)
noncomputable def digest_state_round_a4e_G : List Po := [(.cells (.cons (.int .u64) (.cons (.int .u64) (.cons (.int .u64) (.int .u64)))))]
noncomputable def digest_state_round_a4e_V (f : Int → Int → Int → Int → Int → Option (Unit × (Int × Int × Int × Int))) (x : ((Unit × Int) × (Int × Int × Int × Int))) : Option (Unit × (Int × Int × Int × Int)) := f x.1.2 x.2.1 x.2.2.1 x.2.2.2.1 x.2.2.2.2
noncomputable def digest_state_round_a4e_C : Cal := tbl [(81, (ent bits_RotateLeft64_P bits_RotateLeft64_H bits_RotateLeft64_R bits_RotateLeft64_G (bits_RotateLeft64_V (bits_RotateLeft64))))]
theorem digest_state_round_a4e_Cok : CalOK Tryd.prog digest_state_round_a4e_C ∧ CalNt digest_state_round_a4e_C := by
  unfold digest_state_round_a4e_C
  exact tbl_ok (by
    intro p hp
    simp only [List.mem_cons, List.not_mem_nil, or_false] at hp
    rcases hp with rfl
    exact bits_RotateLeft64_ok)
noncomputable def digest_state_round_a4e_FH : FH := { loops := [(1, { keep := [0, 4, 5] }, { keep := [] })] }
theorem digest_state_round_a4e_l1_s (a1 : Int) (a2 : Int) (a3 : Int) (a4 : Int) (a5 : Int) (a6 : Int) : stepC Tryd.prog digest_state_round_a4e_C digest_state_round_a4e_FH [] [] 1 ((loopsAt 1 (codeOf Tryd.f58)).headD .skip) digest_state_round_a4e_l1p digest_state_round_a4e_l1x { keep := [0, 4, 5] } { keep := [] } (((), a1, a2), (a3, a4, a5, a6)) _ some = digest_state_round_a4e_l1 (((), a1, a2), (a3, a4, a5, a6)) := by kernel_rfl
theorem digest_state_round_a4e_l1_t : ToldC Tryd.prog 1 (codeOf Tryd.f58) ((1, toldL digest_state_round_a4e_l1p digest_state_round_a4e_l1x digest_state_round_a4e_l1) :: []) [] :=
  ToldC.loop digest_state_round_a4e_FH 1 (ToldC.nil 1) digest_state_round_a4e_Cok 1 ((loopsAt 1 (codeOf Tryd.f58)).headD .skip) (by kernel_rfl) (p := digest_state_round_a4e_l1p) (px := digest_state_round_a4e_l1x) (g := digest_state_round_a4e_l1) (hi := { keep := [0, 4, 5] }) (ho := { keep := [] }) (by kernel_rfl) fun (x : ((Unit × Int × Int) × (Int × Int × Int × Int))) => digest_state_round_a4e_l1_s x.1.2.1 x.1.2.2 x.2.1 x.2.2.1 x.2.2.2.1 x.2.2.2.2
theorem digest_state_round_a4e_b (a1 : Int) (a2 : Int) (a3 : Int) (a4 : Int) (a5 : Int) : bodyC Tryd.prog digest_state_round_a4e_C digest_state_round_a4e_FH ((1, toldL digest_state_round_a4e_l1p digest_state_round_a4e_l1x digest_state_round_a4e_l1) :: []) [] { keep := [] } 58 digest_state_round_a4e_P digest_state_round_a4e_H digest_state_round_a4e_R digest_state_round_a4e_G (((), a1), (a2, a3, a4, a5)) _ some = digest_state_round_a4e a1 a2 a3 a4 a5 := by kernel_rfl
theorem digest_state_round_a4e_ok : EntOK Tryd.prog 58 (ent digest_state_round_a4e_P digest_state_round_a4e_H digest_state_round_a4e_R digest_state_round_a4e_G (digest_state_round_a4e_V (digest_state_round_a4e))) :=
  ent_ok digest_state_round_a4e_FH digest_state_round_a4e_Cok (hp := digest_state_round_a4e_H) (fn := Tryd.f58) (by kernel_rfl) digest_state_round_a4e_l1_t fun (x : ((Unit × Int) × (Int × Int × Int × Int))) => digest_state_round_a4e_b x.1.2 x.2.1 x.2.2.1 x.2.2.2.1 x.2.2.2.2

/-! digest_state_word_a4e: (*passkey/digest.state).word -/
noncomputable def digest_state_word_a4e_P : Pt := (.cons (.ptr 0 0) (.int .u64))
noncomputable def digest_state_word_a4e_H : List Po := [(.cells (.cons (.int .u64) (.cons (.int .u64) (.cons (.int .u64) (.int .u64)))))]
noncomputable def digest_state_word_a4e_R : Pt := (.tup .nil)
noncomputable def digest_state_word_a4e_G : List Po := [(.cells (.cons (.int .u64) (.cons (.int .u64) (.cons (.int .u64) (.int .u64)))))]
noncomputable def digest_state_word_a4e_V (f : Int → Int → Int → Int → Int → Option (Unit × (Int × Int × Int × Int))) (x : ((Unit × Int) × (Int × Int × Int × Int))) : Option (Unit × (Int × Int × Int × Int)) := f x.1.2 x.2.1 x.2.2.1 x.2.2.2.1 x.2.2.2.2
noncomputable def digest_state_word_a4e_C : Cal := tbl [(58, (ent digest_state_round_a4e_P digest_state_round_a4e_H digest_state_round_a4e_R digest_state_round_a4e_G (digest_state_round_a4e_V (digest_state_round_a4e))))]
theorem digest_state_word_a4e_Cok : CalOK Tryd.prog digest_state_word_a4e_C ∧ CalNt digest_state_word_a4e_C := by
  unfold digest_state_word_a4e_C
  exact tbl_ok (by
    intro p hp
    simp only [List.mem_cons, List.not_mem_nil, or_false] at hp
    rcases hp with rfl
    exact digest_state_round_a4e_ok)
noncomputable def digest_state_word_a4e_FH : FH := {}
theorem digest_state_word_a4e_b (a1 : Int) (a2 : Int) (a3 : Int) (a4 : Int) (a5 : Int) : bodyC Tryd.prog digest_state_word_a4e_C digest_state_word_a4e_FH [] [] { keep := [] } 56 digest_state_word_a4e_P digest_state_word_a4e_H digest_state_word_a4e_R digest_state_word_a4e_G (((), a1), (a2, a3, a4, a5)) _ some = digest_state_word_a4e a1 a2 a3 a4 a5 := by kernel_rfl
theorem digest_state_word_a4e_ok : EntOK Tryd.prog 56 (ent digest_state_word_a4e_P digest_state_word_a4e_H digest_state_word_a4e_R digest_state_word_a4e_G (digest_state_word_a4e_V (digest_state_word_a4e))) :=
  ent_ok digest_state_word_a4e_FH digest_state_word_a4e_Cok (hp := digest_state_word_a4e_H) (fn := Tryd.f56) (by kernel_rfl) (ToldC.nil 1) fun (x : ((Unit × Int) × (Int × Int × Int × Int))) => digest_state_word_a4e_b x.1.2 x.2.1 x.2.2.1 x.2.2.2.1 x.2.2.2.2

/-! digest_Sum: passkey/digest.Sum -/
noncomputable def digest_Sum_l3p : SP := { n := 67, ix := [2, 7, 8], p := (.cons (.nums .u8) (.cons (.ptr 0 0) (.int .u64))), hp := [(.cells (.cons (.int .u64) (.cons (.int .u64) (.cons (.int .u64) (.int .u64)))))] }
noncomputable def digest_Sum_l3x : List (Ex × SP) := [((.exit 0), { n := 67, ix := [2, 7, 8], p := (.cons (.nums .u8) (.cons (.ptr 0 0) (.int .u64))), hp := [(.cells (.cons (.int .u64) (.cons (.int .u64) (.cons (.int .u64) (.int .u64)))))] })]
noncomputable def digest_Sum_P : Pt := (.cons (.int .u64) (.cons (.int .u64) (.nums .u8)))
noncomputable def digest_Sum_H : List Po := []
noncomputable def digest_Sum_R : Pt := (.int .u64)
noncomputable def digest_Sum_G : List Po := []
noncomputable def digest_Sum_V (f : Int → Int → (List Int) → Option Int) (x : (Int × Int × List Int)) : Option Int := f x.1 x.2.1 x.2.2
noncomputable def digest_Sum_C : Cal := tbl [(57, (ent digest_little_P digest_little_H digest_little_R digest_little_G (digest_little_V (digest_little)))), (56, (ent digest_state_word_a4e_P digest_state_word_a4e_H digest_state_word_a4e_R digest_state_word_a4e_G (digest_state_word_a4e_V (digest_state_word_a4e)))), (58, (ent digest_state_round_a4e_P digest_state_round_a4e_H digest_state_round_a4e_R digest_state_round_a4e_G (digest_state_round_a4e_V (digest_state_round_a4e))))]
theorem digest_Sum_Cok : CalOK Tryd.prog digest_Sum_C ∧ CalNt digest_Sum_C := by
  unfold digest_Sum_C
  exact tbl_ok (by
    intro p hp
    simp only [List.mem_cons, List.not_mem_nil, or_false] at hp
    rcases hp with rfl | rfl | rfl
    · exact digest_little_ok
    · exact digest_state_word_a4e_ok
    · exact digest_state_round_a4e_ok)
noncomputable def digest_Sum_FH : FH := { loops := [(3, { keep := [2, 7, 8] }, { keep := [2, 6, 7, 8] })] }
theorem digest_Sum_l3_s (a1 : List Int) (a2 : Int) (a3 : Int) (a4 : Int) (a5 : Int) (a6 : Int) : stepC Tryd.prog digest_Sum_C digest_Sum_FH [] [] 0 ((loopsAt 3 (codeOf Tryd.f35)).headD .skip) digest_Sum_l3p digest_Sum_l3x { keep := [2, 7, 8] } { keep := [2, 6, 7, 8] } ((a1, (), a2), (a3, a4, a5, a6)) _ some = digest_Sum_l3 ((a1, (), a2), (a3, a4, a5, a6)) := by kernel_rfl
theorem digest_Sum_l3_t : ToldC Tryd.prog 0 (codeOf Tryd.f35) ((3, toldL digest_Sum_l3p digest_Sum_l3x digest_Sum_l3) :: []) [] :=
  ToldC.loop digest_Sum_FH 0 (ToldC.nil 0) digest_Sum_Cok 3 ((loopsAt 3 (codeOf Tryd.f35)).headD .skip) (by kernel_rfl) (p := digest_Sum_l3p) (px := digest_Sum_l3x) (g := digest_Sum_l3) (hi := { keep := [2, 7, 8] }) (ho := { keep := [2, 6, 7, 8] }) (by kernel_rfl) fun (x : ((List Int × Unit × Int) × (Int × Int × Int × Int))) => digest_Sum_l3_s x.1.1 x.1.2.2 x.2.1 x.2.2.1 x.2.2.2.1 x.2.2.2.2
theorem digest_Sum_b (a1 : Int) (a2 : Int) (a3 : List Int) : bodyC Tryd.prog digest_Sum_C digest_Sum_FH ((3, toldL digest_Sum_l3p digest_Sum_l3x digest_Sum_l3) :: []) [] { keep := [] } 35 digest_Sum_P digest_Sum_H digest_Sum_R digest_Sum_G (a1, a2, a3) _ some = digest_Sum a1 a2 a3 := by kernel_rfl
theorem digest_Sum_ok : EntOK Tryd.prog 35 (ent digest_Sum_P digest_Sum_H digest_Sum_R digest_Sum_G (digest_Sum_V (digest_Sum))) :=
  ent_ok digest_Sum_FH digest_Sum_Cok (hp := digest_Sum_H) (fn := Tryd.f35) (by kernel_rfl) digest_Sum_l3_t fun (x : (Int × Int × List Int)) => digest_Sum_b x.1 x.2.1 x.2.2

/-! digest_Mac: passkey/digest.Mac -/
noncomputable def digest_Mac_P : Pt := (.cons (.int .u64) (.cons (.int .i64) (.nums .u8)))
noncomputable def digest_Mac_H : List Po := []
noncomputable def digest_Mac_R : Pt := (.int .u64)
noncomputable def digest_Mac_G : List Po := []
noncomputable def digest_Mac_V (f : Int → Int → (List Int) → Option Int) (x : (Int × Int × List Int)) : Option Int := f x.1 x.2.1 x.2.2
noncomputable def digest_Mac_C : Cal := tbl [(35, (ent digest_Sum_P digest_Sum_H digest_Sum_R digest_Sum_G (digest_Sum_V (digest_Sum))))]
theorem digest_Mac_Cok : CalOK Tryd.prog digest_Mac_C ∧ CalNt digest_Mac_C := by
  unfold digest_Mac_C
  exact tbl_ok (by
    intro p hp
    simp only [List.mem_cons, List.not_mem_nil, or_false] at hp
    rcases hp with rfl
    exact digest_Sum_ok)
noncomputable def digest_Mac_FH : FH := {}
theorem digest_Mac_b (a1 : Int) (a2 : Int) (a3 : List Int) : bodyC Tryd.prog digest_Mac_C digest_Mac_FH [] [] { keep := [] } 15 digest_Mac_P digest_Mac_H digest_Mac_R digest_Mac_G (a1, a2, a3) _ some = digest_Mac a1 a2 a3 := by kernel_rfl
theorem digest_Mac_ok : EntOK Tryd.prog 15 (ent digest_Mac_P digest_Mac_H digest_Mac_R digest_Mac_G (digest_Mac_V (digest_Mac))) :=
  ent_ok digest_Mac_FH digest_Mac_Cok (hp := digest_Mac_H) (fn := Tryd.f15) (by kernel_rfl) (ToldC.nil 0) fun (x : (Int × Int × List Int)) => digest_Mac_b x.1 x.2.1 x.2.2

/-! digest_Words: passkey/digest.Words -/
noncomputable def digest_Words_l6p : SP := { n := 28, ix := [3, 5, 7, 8, 9, 13], p := (.cons (.ref 0) (.cons (.int .u64) (.cons (.nums .u64) (.cons (.int .i64) (.cons (.int .i64) (.int .i64)))))), hp := [(.arrN 1 5 .u8)] }
noncomputable def digest_Words_l6x : List (Ex × SP) := [((.exit 2), { n := 28, ix := [3, 7, 8, 9], p := (.cons (.ref 0) (.cons (.nums .u64) (.cons (.int .i64) (.int .i64)))), hp := [(.arrN 1 5 .u8)] })]
noncomputable def digest_Words_l3p : SP := { n := 28, ix := [3, 7, 8, 9], p := (.cons (.ref 0) (.cons (.nums .u64) (.cons (.int .i64) (.int .i64)))), hp := [(.arrN 1 5 .u8)] }
noncomputable def digest_Words_l3x : List (Ex × SP) := [((.exit 0), { n := 28, ix := [3], p := (.ref 0), hp := [(.arrN 1 5 .u8)] })]
noncomputable def digest_Words_P : Pt := (.nums .u64)
noncomputable def digest_Words_H : List Po := []
noncomputable def digest_Words_R : Pt := (.ref 0)
noncomputable def digest_Words_G : List Po := [(.arrN 1 5 .u8)]
noncomputable def digest_Words_V (f : (List Int) → Option (Unit × List Int)) (x : List Int) : Option (Unit × List Int) := f x
noncomputable def digest_Words_C : Cal := tbl []
theorem digest_Words_Cok : CalOK Tryd.prog digest_Words_C ∧ CalNt digest_Words_C := by
  unfold digest_Words_C
  exact tbl_ok (by intro p hp; simp at hp)
noncomputable def digest_Words_FH : FH := { loops := [(6, { keep := [3, 5, 7, 8, 9, 13] }, { keep := [2, 3, 7, 8, 9] }), (3, { keep := [3, 7, 8, 9], own := [(3, 5)] }, { keep := [2, 3] })] }
theorem digest_Words_l6_s (a1 : Int) (a2 : List Int) (a3 : Int) (a4 : Int) (a5 : Int) (a6 : List Int) : stepC Tryd.prog digest_Words_C digest_Words_FH [] [] 0 ((loopsAt 6 (codeOf Tryd.f43)).headD .skip) digest_Words_l6p digest_Words_l6x { keep := [3, 5, 7, 8, 9, 13] } { keep := [2, 3, 7, 8, 9] } (((), a1, a2, a3, a4, a5), a6) _ some = digest_Words_l6 (((), a1, a2, a3, a4, a5), a6) := by kernel_rfl
theorem digest_Words_l6_t : ToldC Tryd.prog 0 (codeOf Tryd.f43) ((6, toldL digest_Words_l6p digest_Words_l6x digest_Words_l6) :: []) [] :=
  ToldC.loop digest_Words_FH 0 (ToldC.nil 0) digest_Words_Cok 6 ((loopsAt 6 (codeOf Tryd.f43)).headD .skip) (by kernel_rfl) (p := digest_Words_l6p) (px := digest_Words_l6x) (g := digest_Words_l6) (hi := { keep := [3, 5, 7, 8, 9, 13] }) (ho := { keep := [2, 3, 7, 8, 9] }) (by kernel_rfl) fun (x : ((Unit × Int × List Int × Int × Int × Int) × List Int)) => digest_Words_l6_s x.1.2.1 x.1.2.2.1 x.1.2.2.2.1 x.1.2.2.2.2.1 x.1.2.2.2.2.2 x.2
theorem digest_Words_l3_s (a1 : List Int) (a2 : Int) (a3 : Int) (a4 : List Int) : stepC Tryd.prog digest_Words_C digest_Words_FH ((6, toldL digest_Words_l6p digest_Words_l6x digest_Words_l6) :: []) [] 0 ((loopsAt 3 (codeOf Tryd.f43)).headD .skip) digest_Words_l3p digest_Words_l3x { keep := [3, 7, 8, 9], own := [(3, 5)] } { keep := [2, 3] } (((), a1, a2, a3), a4) _ some = digest_Words_l3 (((), a1, a2, a3), a4) := by kernel_rfl
theorem digest_Words_l3_t : ToldC Tryd.prog 0 (codeOf Tryd.f43) ((3, toldL digest_Words_l3p digest_Words_l3x digest_Words_l3) :: ((6, toldL digest_Words_l6p digest_Words_l6x digest_Words_l6) :: [])) [] :=
  ToldC.loop digest_Words_FH 0 digest_Words_l6_t digest_Words_Cok 3 ((loopsAt 3 (codeOf Tryd.f43)).headD .skip) (by kernel_rfl) (p := digest_Words_l3p) (px := digest_Words_l3x) (g := digest_Words_l3) (hi := { keep := [3, 7, 8, 9], own := [(3, 5)] }) (ho := { keep := [2, 3] }) (by kernel_rfl) fun (x : ((Unit × List Int × Int × Int) × List Int)) => digest_Words_l3_s x.1.2.1 x.1.2.2.1 x.1.2.2.2 x.2
theorem digest_Words_b (a1 : List Int) : bodyC Tryd.prog digest_Words_C digest_Words_FH ((3, toldL digest_Words_l3p digest_Words_l3x digest_Words_l3) :: ((6, toldL digest_Words_l6p digest_Words_l6x digest_Words_l6) :: [])) [] { keep := [] } 43 digest_Words_P digest_Words_H digest_Words_R digest_Words_G a1 _ some = digest_Words a1 := by kernel_rfl
theorem digest_Words_ok : EntOK Tryd.prog 43 (ent digest_Words_P digest_Words_H digest_Words_R digest_Words_G (digest_Words_V (digest_Words))) :=
  ent_ok digest_Words_FH digest_Words_Cok (hp := digest_Words_H) (fn := Tryd.f43) (by kernel_rfl) digest_Words_l3_t fun (x : List Int) => digest_Words_b x

/-! seal_Stream: passkey/seal.Stream -/
noncomputable def seal_Stream_l4p : SP := { n := 31, ix := [0, 1, 2, 7, 8], p := (.cons (.int .u64) (.cons (.int .u64) (.cons (.int .i64) (.cons (.ref 0) (.int .u64))))), hp := [(.arrN 1 5 .u8)] }
noncomputable def seal_Stream_l4x : List (Ex × SP) := [((.exit 0), { n := 31, ix := [2, 7], p := (.cons (.int .i64) (.ref 0)), hp := [(.arrN 1 5 .u8)] })]
noncomputable def seal_Stream_P : Pt := (.cons (.int .u64) (.cons (.int .u64) (.int .i64)))
noncomputable def seal_Stream_H : List Po := []
noncomputable def seal_Stream_R : Pt := (.ref 0)
noncomputable def seal_Stream_G : List Po := [(.arrN 1 5 .u8)]
noncomputable def seal_Stream_V (f : Int → Int → Int → Option (Unit × List Int)) (x : (Int × Int × Int)) : Option (Unit × List Int) := f x.1 x.2.1 x.2.2
noncomputable def seal_Stream_C : Cal := tbl [(43, (ent digest_Words_P digest_Words_H digest_Words_R digest_Words_G (digest_Words_V (digest_Words)))), (15, (ent digest_Mac_P digest_Mac_H digest_Mac_R digest_Mac_G (digest_Mac_V (digest_Mac))))]
theorem seal_Stream_Cok : CalOK Tryd.prog seal_Stream_C ∧ CalNt seal_Stream_C := by
  unfold seal_Stream_C
  exact tbl_ok (by
    intro p hp
    simp only [List.mem_cons, List.not_mem_nil, or_false] at hp
    rcases hp with rfl | rfl
    · exact digest_Words_ok
    · exact digest_Mac_ok)
noncomputable def seal_Stream_FH : FH := { loops := [(4, { keep := [0, 1, 2, 7, 8], own := [(7, 5)] }, { keep := [2, 6, 7] })], ops := [(6, [(5, .borrow), (6, .borrow), (8, .borrow)]), (7, [(2, .take)])] }
theorem seal_Stream_l4_s (a1 : Int) (a2 : Int) (a3 : Int) (a4 : Int) (a5 : List Int) : stepC Tryd.prog seal_Stream_C seal_Stream_FH [] [] 0 ((loopsAt 4 (codeOf Tryd.f19)).headD .skip) seal_Stream_l4p seal_Stream_l4x { keep := [0, 1, 2, 7, 8], own := [(7, 5)] } { keep := [2, 6, 7] } ((a1, a2, a3, (), a4), a5) _ some = seal_Stream_l4 ((a1, a2, a3, (), a4), a5) := by kernel_rfl
theorem seal_Stream_l4_t : ToldC Tryd.prog 0 (codeOf Tryd.f19) ((4, toldL seal_Stream_l4p seal_Stream_l4x seal_Stream_l4) :: []) [] :=
  ToldC.loop seal_Stream_FH 0 (ToldC.nil 0) seal_Stream_Cok 4 ((loopsAt 4 (codeOf Tryd.f19)).headD .skip) (by kernel_rfl) (p := seal_Stream_l4p) (px := seal_Stream_l4x) (g := seal_Stream_l4) (hi := { keep := [0, 1, 2, 7, 8], own := [(7, 5)] }) (ho := { keep := [2, 6, 7] }) (by kernel_rfl) fun (x : ((Int × Int × Int × Unit × Int) × List Int)) => seal_Stream_l4_s x.1.1 x.1.2.1 x.1.2.2.1 x.1.2.2.2.2 x.2
theorem seal_Stream_b (a1 : Int) (a2 : Int) (a3 : Int) : bodyC Tryd.prog seal_Stream_C seal_Stream_FH ((4, toldL seal_Stream_l4p seal_Stream_l4x seal_Stream_l4) :: []) [] { keep := [] } 19 seal_Stream_P seal_Stream_H seal_Stream_R seal_Stream_G (a1, a2, a3) _ some = seal_Stream a1 a2 a3 := by kernel_rfl
theorem seal_Stream_ok : EntOK Tryd.prog 19 (ent seal_Stream_P seal_Stream_H seal_Stream_R seal_Stream_G (seal_Stream_V (seal_Stream))) :=
  ent_ok seal_Stream_FH seal_Stream_Cok (hp := seal_Stream_H) (fn := Tryd.f19) (by kernel_rfl) seal_Stream_l4_t fun (x : (Int × Int × Int)) => seal_Stream_b x.1 x.2.1 x.2.2

/-! bits_Len64: math/bits.Len64 -/
noncomputable def bits_Len64_j10p : SP := { n := 25, ix := [0, 2], p := (.cons (.int .u64) (.int .i64)) }
noncomputable def bits_Len64_j10x : List (Ex × SP) := [(.ret, { n := 25, ix := [2], p := (.int .i64) })]
noncomputable def bits_Len64_j7p : SP := { n := 25, ix := [0, 2], p := (.cons (.int .u64) (.int .i64)) }
noncomputable def bits_Len64_j7x : List (Ex × SP) := [(.ret, { n := 25, ix := [2], p := (.int .i64) })]
noncomputable def bits_Len64_j4p : SP := { n := 25, ix := [0, 2], p := (.cons (.int .u64) (.int .i64)) }
noncomputable def bits_Len64_j4x : List (Ex × SP) := [(.ret, { n := 25, ix := [2], p := (.int .i64) })]
noncomputable def bits_Len64_P : Pt := (.int .u64)
noncomputable def bits_Len64_H : List Po := []
noncomputable def bits_Len64_R : Pt := (.int .i64)
noncomputable def bits_Len64_G : List Po := []
noncomputable def bits_Len64_V (f : Int → Option Int) (x : Int) : Option Int := f x
noncomputable def bits_Len64_C : Cal := tbl []
theorem bits_Len64_Cok : CalOK Tryd.prog bits_Len64_C ∧ CalNt bits_Len64_C := by
  unfold bits_Len64_C
  exact tbl_ok (by intro p hp; simp at hp)
noncomputable def bits_Len64_FH : FH := { join := [(10, { keep := [0, 2] }), (7, { keep := [0, 2] }), (4, { keep := [0, 2] })] }
theorem bits_Len64_j10_s (a1 : Int) (a2 : Int) : joinC Tryd.prog bits_Len64_C bits_Len64_FH [] [] 0 ((joinsAt 10 (codeOf Tryd.f74)).headD .skip) bits_Len64_j10p bits_Len64_j10x { keep := [2] } (a1, a2) _ some = bits_Len64_j10 (a1, a2) := by kernel_rfl
theorem bits_Len64_j10_t : ToldC Tryd.prog 0 (codeOf Tryd.f74) [] ((10, toldJ bits_Len64_j10p bits_Len64_j10x bits_Len64_j10) :: []) :=
  ToldC.join bits_Len64_FH 0 (ToldC.nil 0) bits_Len64_Cok 10 ((joinsAt 10 (codeOf Tryd.f74)).headD .skip) (by kernel_rfl) (p := bits_Len64_j10p) (px := bits_Len64_j10x) (g := bits_Len64_j10) (ho := { keep := [2] }) fun (x : (Int × Int)) => bits_Len64_j10_s x.1 x.2
theorem bits_Len64_j7_s (a1 : Int) (a2 : Int) : joinC Tryd.prog bits_Len64_C bits_Len64_FH [] ((10, toldJ bits_Len64_j10p bits_Len64_j10x bits_Len64_j10) :: []) 0 ((joinsAt 7 (codeOf Tryd.f74)).headD .skip) bits_Len64_j7p bits_Len64_j7x { keep := [2] } (a1, a2) _ some = bits_Len64_j7 (a1, a2) := by kernel_rfl
theorem bits_Len64_j7_t : ToldC Tryd.prog 0 (codeOf Tryd.f74) [] ((7, toldJ bits_Len64_j7p bits_Len64_j7x bits_Len64_j7) :: ((10, toldJ bits_Len64_j10p bits_Len64_j10x bits_Len64_j10) :: [])) :=
  ToldC.join bits_Len64_FH 0 bits_Len64_j10_t bits_Len64_Cok 7 ((joinsAt 7 (codeOf Tryd.f74)).headD .skip) (by kernel_rfl) (p := bits_Len64_j7p) (px := bits_Len64_j7x) (g := bits_Len64_j7) (ho := { keep := [2] }) fun (x : (Int × Int)) => bits_Len64_j7_s x.1 x.2
theorem bits_Len64_j4_s (a1 : Int) (a2 : Int) : joinC Tryd.prog bits_Len64_C bits_Len64_FH [] ((7, toldJ bits_Len64_j7p bits_Len64_j7x bits_Len64_j7) :: ((10, toldJ bits_Len64_j10p bits_Len64_j10x bits_Len64_j10) :: [])) 0 ((joinsAt 4 (codeOf Tryd.f74)).headD .skip) bits_Len64_j4p bits_Len64_j4x { keep := [2] } (a1, a2) _ some = bits_Len64_j4 (a1, a2) := by kernel_rfl
theorem bits_Len64_j4_t : ToldC Tryd.prog 0 (codeOf Tryd.f74) [] ((4, toldJ bits_Len64_j4p bits_Len64_j4x bits_Len64_j4) :: ((7, toldJ bits_Len64_j7p bits_Len64_j7x bits_Len64_j7) :: ((10, toldJ bits_Len64_j10p bits_Len64_j10x bits_Len64_j10) :: []))) :=
  ToldC.join bits_Len64_FH 0 bits_Len64_j7_t bits_Len64_Cok 4 ((joinsAt 4 (codeOf Tryd.f74)).headD .skip) (by kernel_rfl) (p := bits_Len64_j4p) (px := bits_Len64_j4x) (g := bits_Len64_j4) (ho := { keep := [2] }) fun (x : (Int × Int)) => bits_Len64_j4_s x.1 x.2
theorem bits_Len64_b (a1 : Int) : bodyC Tryd.prog bits_Len64_C bits_Len64_FH [] ((4, toldJ bits_Len64_j4p bits_Len64_j4x bits_Len64_j4) :: ((7, toldJ bits_Len64_j7p bits_Len64_j7x bits_Len64_j7) :: ((10, toldJ bits_Len64_j10p bits_Len64_j10x bits_Len64_j10) :: []))) { keep := [] } 74 bits_Len64_P bits_Len64_H bits_Len64_R bits_Len64_G a1 _ some = bits_Len64 a1 := by kernel_rfl
theorem bits_Len64_ok : EntOK Tryd.prog 74 (ent bits_Len64_P bits_Len64_H bits_Len64_R bits_Len64_G (bits_Len64_V (bits_Len64))) :=
  ent_ok bits_Len64_FH bits_Len64_Cok (hp := bits_Len64_H) (fn := Tryd.f74) (by kernel_rfl) bits_Len64_j4_t fun (x : Int) => bits_Len64_b x

/-! bits_Len: math/bits.Len -/
noncomputable def bits_Len_P : Pt := (.int .u64)
noncomputable def bits_Len_H : List Po := []
noncomputable def bits_Len_R : Pt := (.int .i64)
noncomputable def bits_Len_G : List Po := []
noncomputable def bits_Len_V (f : Int → Option Int) (x : Int) : Option Int := f x
noncomputable def bits_Len_C : Cal := tbl [(74, (ent bits_Len64_P bits_Len64_H bits_Len64_R bits_Len64_G (bits_Len64_V (bits_Len64))))]
theorem bits_Len_Cok : CalOK Tryd.prog bits_Len_C ∧ CalNt bits_Len_C := by
  unfold bits_Len_C
  exact tbl_ok (by
    intro p hp
    simp only [List.mem_cons, List.not_mem_nil, or_false] at hp
    rcases hp with rfl
    exact bits_Len64_ok)
noncomputable def bits_Len_FH : FH := {}
theorem bits_Len_b (a1 : Int) : bodyC Tryd.prog bits_Len_C bits_Len_FH [] [] { keep := [] } 45 bits_Len_P bits_Len_H bits_Len_R bits_Len_G a1 _ some = bits_Len a1 := by kernel_rfl
theorem bits_Len_ok : EntOK Tryd.prog 45 (ent bits_Len_P bits_Len_H bits_Len_R bits_Len_G (bits_Len_V (bits_Len))) :=
  ent_ok bits_Len_FH bits_Len_Cok (hp := bits_Len_H) (fn := Tryd.f45) (by kernel_rfl) (ToldC.nil 0) fun (x : Int) => bits_Len_b x

/-! cmp_isNaN_byte: cmp.isNaN[byte] -/
noncomputable def cmp_isNaN_byte_P : Pt := (.int .u8)
noncomputable def cmp_isNaN_byte_H : List Po := []
noncomputable def cmp_isNaN_byte_R : Pt := .bool
noncomputable def cmp_isNaN_byte_G : List Po := []
noncomputable def cmp_isNaN_byte_V (f : Int → Option Bool) (x : Int) : Option Bool := f x
noncomputable def cmp_isNaN_byte_C : Cal := tbl []
theorem cmp_isNaN_byte_Cok : CalOK Tryd.prog cmp_isNaN_byte_C ∧ CalNt cmp_isNaN_byte_C := by
  unfold cmp_isNaN_byte_C
  exact tbl_ok (by intro p hp; simp at hp)
noncomputable def cmp_isNaN_byte_FH : FH := {}
theorem cmp_isNaN_byte_b (a1 : Int) : bodyC Tryd.prog cmp_isNaN_byte_C cmp_isNaN_byte_FH [] [] { keep := [] } 75 cmp_isNaN_byte_P cmp_isNaN_byte_H cmp_isNaN_byte_R cmp_isNaN_byte_G a1 _ some = cmp_isNaN_byte a1 := by kernel_rfl
theorem cmp_isNaN_byte_ok : EntOK Tryd.prog 75 (ent cmp_isNaN_byte_P cmp_isNaN_byte_H cmp_isNaN_byte_R cmp_isNaN_byte_G (cmp_isNaN_byte_V (cmp_isNaN_byte))) :=
  ent_ok cmp_isNaN_byte_FH cmp_isNaN_byte_Cok (hp := cmp_isNaN_byte_H) (fn := Tryd.f75) (by kernel_rfl) (ToldC.nil 0) fun (x : Int) => cmp_isNaN_byte_b x

/-! cmp_Compare_byte: cmp.Compare[byte] -/
noncomputable def cmp_Compare_byte_P : Pt := (.cons (.int .u8) (.int .u8))
noncomputable def cmp_Compare_byte_H : List Po := []
noncomputable def cmp_Compare_byte_R : Pt := (.int .i64)
noncomputable def cmp_Compare_byte_G : List Po := []
noncomputable def cmp_Compare_byte_V (f : Int → Int → Option Int) (x : (Int × Int)) : Option Int := f x.1 x.2
noncomputable def cmp_Compare_byte_C : Cal := tbl [(75, (ent cmp_isNaN_byte_P cmp_isNaN_byte_H cmp_isNaN_byte_R cmp_isNaN_byte_G (cmp_isNaN_byte_V (cmp_isNaN_byte))))]
theorem cmp_Compare_byte_Cok : CalOK Tryd.prog cmp_Compare_byte_C ∧ CalNt cmp_Compare_byte_C := by
  unfold cmp_Compare_byte_C
  exact tbl_ok (by
    intro p hp
    simp only [List.mem_cons, List.not_mem_nil, or_false] at hp
    rcases hp with rfl
    exact cmp_isNaN_byte_ok)
noncomputable def cmp_Compare_byte_FH : FH := {}
theorem cmp_Compare_byte_b (a1 : Int) (a2 : Int) : bodyC Tryd.prog cmp_Compare_byte_C cmp_Compare_byte_FH [] [] { keep := [] } 46 cmp_Compare_byte_P cmp_Compare_byte_H cmp_Compare_byte_R cmp_Compare_byte_G (a1, a2) _ some = cmp_Compare_byte a1 a2 := by kernel_rfl
theorem cmp_Compare_byte_ok : EntOK Tryd.prog 46 (ent cmp_Compare_byte_P cmp_Compare_byte_H cmp_Compare_byte_R cmp_Compare_byte_G (cmp_Compare_byte_V (cmp_Compare_byte))) :=
  ent_ok cmp_Compare_byte_FH cmp_Compare_byte_Cok (hp := cmp_Compare_byte_H) (fn := Tryd.f46) (by kernel_rfl) (ToldC.nil 0) fun (x : (Int × Int)) => cmp_Compare_byte_b x.1 x.2

/-! slices_Compare_Lbyte_byte: slices.Compare[[]byte,byte] -/
noncomputable def slices_Compare_Lbyte_byte_l2p : SP := { n := 36, ix := [0, 1, 9, 10, 11], p := (.cons (.nums .u8) (.cons (.nums .u8) (.cons (.nums .u8) (.cons (.int .i64) (.int .i64))))) }
noncomputable def slices_Compare_Lbyte_byte_l2x : List (Ex × SP) := [(.ret, { n := 36, ix := [4], p := (.int .i64) }), ((.exit 0), { n := 36, ix := [0, 1], p := (.cons (.nums .u8) (.nums .u8)) })]
noncomputable def slices_Compare_Lbyte_byte_P : Pt := (.cons (.nums .u8) (.nums .u8))
noncomputable def slices_Compare_Lbyte_byte_H : List Po := []
noncomputable def slices_Compare_Lbyte_byte_R : Pt := (.int .i64)
noncomputable def slices_Compare_Lbyte_byte_G : List Po := []
noncomputable def slices_Compare_Lbyte_byte_V (f : (List Int) → (List Int) → Option Int) (x : (List Int × List Int)) : Option Int := f x.1 x.2
noncomputable def slices_Compare_Lbyte_byte_C : Cal := tbl [(46, (ent cmp_Compare_byte_P cmp_Compare_byte_H cmp_Compare_byte_R cmp_Compare_byte_G (cmp_Compare_byte_V (cmp_Compare_byte))))]
theorem slices_Compare_Lbyte_byte_Cok : CalOK Tryd.prog slices_Compare_Lbyte_byte_C ∧ CalNt slices_Compare_Lbyte_byte_C := by
  unfold slices_Compare_Lbyte_byte_C
  exact tbl_ok (by
    intro p hp
    simp only [List.mem_cons, List.not_mem_nil, or_false] at hp
    rcases hp with rfl
    exact cmp_Compare_byte_ok)
noncomputable def slices_Compare_Lbyte_byte_FH : FH := { loops := [(2, { keep := [0, 1, 9, 10, 11] }, { keep := [0, 1, 4] })] }
theorem slices_Compare_Lbyte_byte_l2_s (a1 : List Int) (a2 : List Int) (a3 : List Int) (a4 : Int) (a5 : Int) : stepC Tryd.prog slices_Compare_Lbyte_byte_C slices_Compare_Lbyte_byte_FH [] [] 0 ((loopsAt 2 (codeOf Tryd.f21)).headD .skip) slices_Compare_Lbyte_byte_l2p slices_Compare_Lbyte_byte_l2x { keep := [0, 1, 9, 10, 11] } { keep := [0, 1, 4] } (a1, a2, a3, a4, a5) _ some = slices_Compare_Lbyte_byte_l2 (a1, a2, a3, a4, a5) := by kernel_rfl
theorem slices_Compare_Lbyte_byte_l2_t : ToldC Tryd.prog 0 (codeOf Tryd.f21) ((2, toldL slices_Compare_Lbyte_byte_l2p slices_Compare_Lbyte_byte_l2x slices_Compare_Lbyte_byte_l2) :: []) [] :=
  ToldC.loop slices_Compare_Lbyte_byte_FH 0 (ToldC.nil 0) slices_Compare_Lbyte_byte_Cok 2 ((loopsAt 2 (codeOf Tryd.f21)).headD .skip) (by kernel_rfl) (p := slices_Compare_Lbyte_byte_l2p) (px := slices_Compare_Lbyte_byte_l2x) (g := slices_Compare_Lbyte_byte_l2) (hi := { keep := [0, 1, 9, 10, 11] }) (ho := { keep := [0, 1, 4] }) (by kernel_rfl) fun (x : (List Int × List Int × List Int × Int × Int)) => slices_Compare_Lbyte_byte_l2_s x.1 x.2.1 x.2.2.1 x.2.2.2.1 x.2.2.2.2
theorem slices_Compare_Lbyte_byte_b (a1 : List Int) (a2 : List Int) : bodyC Tryd.prog slices_Compare_Lbyte_byte_C slices_Compare_Lbyte_byte_FH ((2, toldL slices_Compare_Lbyte_byte_l2p slices_Compare_Lbyte_byte_l2x slices_Compare_Lbyte_byte_l2) :: []) [] { keep := [] } 21 slices_Compare_Lbyte_byte_P slices_Compare_Lbyte_byte_H slices_Compare_Lbyte_byte_R slices_Compare_Lbyte_byte_G (a1, a2) _ some = slices_Compare_Lbyte_byte a1 a2 := by kernel_rfl
theorem slices_Compare_Lbyte_byte_ok : EntOK Tryd.prog 21 (ent slices_Compare_Lbyte_byte_P slices_Compare_Lbyte_byte_H slices_Compare_Lbyte_byte_R slices_Compare_Lbyte_byte_G (slices_Compare_Lbyte_byte_V (slices_Compare_Lbyte_byte))) :=
  ent_ok slices_Compare_Lbyte_byte_FH slices_Compare_Lbyte_byte_Cok (hp := slices_Compare_Lbyte_byte_H) (fn := Tryd.f21) (by kernel_rfl) slices_Compare_Lbyte_byte_l2_t fun (x : (List Int × List Int)) => slices_Compare_Lbyte_byte_b x.1 x.2

/-! slices_insertionSortCmpFunc_Lbyte_1de: slices.insertionSortCmpFunc[[]byte] -/
noncomputable def slices_insertionSortCmpFunc_Lbyte_1de_l4p : SP := { n := 53, ix := [0, 1, 2, 3, 8, 9], p := (.cons (.ref 0) (.cons (.int .i64) (.cons (.int .i64) (.cons (.clo 21 .nil .nil) (.cons (.int .i64) (.int .i64)))))), hp := [(.arrS 1 29 1)] }
noncomputable def slices_insertionSortCmpFunc_Lbyte_1de_l4x : List (Ex × SP) := [((.exit 2), { n := 53, ix := [0, 1, 2, 3, 8], p := (.cons (.ref 0) (.cons (.int .i64) (.cons (.int .i64) (.cons (.clo 21 .nil .nil) (.int .i64))))), hp := [(.arrS 1 29 1)] })]
noncomputable def slices_insertionSortCmpFunc_Lbyte_1de_l1p : SP := { n := 53, ix := [0, 1, 2, 3, 8], p := (.cons (.ref 0) (.cons (.int .i64) (.cons (.int .i64) (.cons (.clo 21 .nil .nil) (.int .i64))))), hp := [(.arrS 1 29 1)] }
noncomputable def slices_insertionSortCmpFunc_Lbyte_1de_l1x : List (Ex × SP) := [((.exit 0), { n := 53, ix := [], p := .nil, hp := [(.arrS 1 29 1)] })]
noncomputable def slices_insertionSortCmpFunc_Lbyte_1de_P : Pt := (.cons (.ref 0) (.cons (.int .i64) (.cons (.int .i64) (.clo 21 .nil .nil))))
noncomputable def slices_insertionSortCmpFunc_Lbyte_1de_H : List Po := [(.arrS 1 29 1)]
noncomputable def slices_insertionSortCmpFunc_Lbyte_1de_R : Pt := (.tup .nil)
noncomputable def slices_insertionSortCmpFunc_Lbyte_1de_G : List Po := [(.arrS 1 29 1)]
noncomputable def slices_insertionSortCmpFunc_Lbyte_1de_V (f : Int → Int → (List PD) → Option (Unit × List PD)) (x : ((Unit × Int × Int × (Unit × Unit)) × List PD)) : Option (Unit × List PD) := f x.1.2.1 x.1.2.2.1 x.2
noncomputable def slices_insertionSortCmpFunc_Lbyte_1de_C : Cal := tbl [(21, (ent slices_Compare_Lbyte_byte_P slices_Compare_Lbyte_byte_H slices_Compare_Lbyte_byte_R slices_Compare_Lbyte_byte_G (slices_Compare_Lbyte_byte_V (slices_Compare_Lbyte_byte))))]
theorem slices_insertionSortCmpFunc_Lbyte_1de_Cok : CalOK Tryd.prog slices_insertionSortCmpFunc_Lbyte_1de_C ∧ CalNt slices_insertionSortCmpFunc_Lbyte_1de_C := by
  unfold slices_insertionSortCmpFunc_Lbyte_1de_C
  exact tbl_ok (by
    intro p hp
    simp only [List.mem_cons, List.not_mem_nil, or_false] at hp
    rcases hp with rfl
    exact slices_Compare_Lbyte_byte_ok)
noncomputable def slices_insertionSortCmpFunc_Lbyte_1de_FH : FH := { loops := [(4, { keep := [0, 1, 2, 3, 8, 9] }, { keep := [0, 1, 2, 3, 8] }), (1, { keep := [0, 1, 2, 3, 8] }, { keep := [] })] }
theorem slices_insertionSortCmpFunc_Lbyte_1de_l4_s (a1 : Int) (a2 : Int) (a3 : Int) (a4 : Int) (a5 : List PD) : stepC Tryd.prog slices_insertionSortCmpFunc_Lbyte_1de_C slices_insertionSortCmpFunc_Lbyte_1de_FH [] [] 1 ((loopsAt 4 (codeOf Tryd.f65)).headD .skip) slices_insertionSortCmpFunc_Lbyte_1de_l4p slices_insertionSortCmpFunc_Lbyte_1de_l4x { keep := [0, 1, 2, 3, 8, 9] } { keep := [0, 1, 2, 3, 8] } (((), a1, a2, ((), ()), a3, a4), a5) _ some = slices_insertionSortCmpFunc_Lbyte_1de_l4 (((), a1, a2, ((), ()), a3, a4), a5) := by kernel_rfl
theorem slices_insertionSortCmpFunc_Lbyte_1de_l4_t : ToldC Tryd.prog 1 (codeOf Tryd.f65) ((4, toldL slices_insertionSortCmpFunc_Lbyte_1de_l4p slices_insertionSortCmpFunc_Lbyte_1de_l4x slices_insertionSortCmpFunc_Lbyte_1de_l4) :: []) [] :=
  ToldC.loop slices_insertionSortCmpFunc_Lbyte_1de_FH 1 (ToldC.nil 1) slices_insertionSortCmpFunc_Lbyte_1de_Cok 4 ((loopsAt 4 (codeOf Tryd.f65)).headD .skip) (by kernel_rfl) (p := slices_insertionSortCmpFunc_Lbyte_1de_l4p) (px := slices_insertionSortCmpFunc_Lbyte_1de_l4x) (g := slices_insertionSortCmpFunc_Lbyte_1de_l4) (hi := { keep := [0, 1, 2, 3, 8, 9] }) (ho := { keep := [0, 1, 2, 3, 8] }) (by kernel_rfl) fun (x : ((Unit × Int × Int × (Unit × Unit) × Int × Int) × List PD)) => slices_insertionSortCmpFunc_Lbyte_1de_l4_s x.1.2.1 x.1.2.2.1 x.1.2.2.2.2.1 x.1.2.2.2.2.2 x.2
theorem slices_insertionSortCmpFunc_Lbyte_1de_l1_s (a1 : Int) (a2 : Int) (a3 : Int) (a4 : List PD) : stepC Tryd.prog slices_insertionSortCmpFunc_Lbyte_1de_C slices_insertionSortCmpFunc_Lbyte_1de_FH ((4, toldL slices_insertionSortCmpFunc_Lbyte_1de_l4p slices_insertionSortCmpFunc_Lbyte_1de_l4x slices_insertionSortCmpFunc_Lbyte_1de_l4) :: []) [] 1 ((loopsAt 1 (codeOf Tryd.f65)).headD .skip) slices_insertionSortCmpFunc_Lbyte_1de_l1p slices_insertionSortCmpFunc_Lbyte_1de_l1x { keep := [0, 1, 2, 3, 8] } { keep := [] } (((), a1, a2, ((), ()), a3), a4) _ some = slices_insertionSortCmpFunc_Lbyte_1de_l1 (((), a1, a2, ((), ()), a3), a4) := by kernel_rfl
theorem slices_insertionSortCmpFunc_Lbyte_1de_l1_t : ToldC Tryd.prog 1 (codeOf Tryd.f65) ((1, toldL slices_insertionSortCmpFunc_Lbyte_1de_l1p slices_insertionSortCmpFunc_Lbyte_1de_l1x slices_insertionSortCmpFunc_Lbyte_1de_l1) :: ((4, toldL slices_insertionSortCmpFunc_Lbyte_1de_l4p slices_insertionSortCmpFunc_Lbyte_1de_l4x slices_insertionSortCmpFunc_Lbyte_1de_l4) :: [])) [] :=
  ToldC.loop slices_insertionSortCmpFunc_Lbyte_1de_FH 1 slices_insertionSortCmpFunc_Lbyte_1de_l4_t slices_insertionSortCmpFunc_Lbyte_1de_Cok 1 ((loopsAt 1 (codeOf Tryd.f65)).headD .skip) (by kernel_rfl) (p := slices_insertionSortCmpFunc_Lbyte_1de_l1p) (px := slices_insertionSortCmpFunc_Lbyte_1de_l1x) (g := slices_insertionSortCmpFunc_Lbyte_1de_l1) (hi := { keep := [0, 1, 2, 3, 8] }) (ho := { keep := [] }) (by kernel_rfl) fun (x : ((Unit × Int × Int × (Unit × Unit) × Int) × List PD)) => slices_insertionSortCmpFunc_Lbyte_1de_l1_s x.1.2.1 x.1.2.2.1 x.1.2.2.2.2 x.2
theorem slices_insertionSortCmpFunc_Lbyte_1de_b (a1 : Int) (a2 : Int) (a3 : List PD) : bodyC Tryd.prog slices_insertionSortCmpFunc_Lbyte_1de_C slices_insertionSortCmpFunc_Lbyte_1de_FH ((1, toldL slices_insertionSortCmpFunc_Lbyte_1de_l1p slices_insertionSortCmpFunc_Lbyte_1de_l1x slices_insertionSortCmpFunc_Lbyte_1de_l1) :: ((4, toldL slices_insertionSortCmpFunc_Lbyte_1de_l4p slices_insertionSortCmpFunc_Lbyte_1de_l4x slices_insertionSortCmpFunc_Lbyte_1de_l4) :: [])) [] { keep := [] } 65 slices_insertionSortCmpFunc_Lbyte_1de_P slices_insertionSortCmpFunc_Lbyte_1de_H slices_insertionSortCmpFunc_Lbyte_1de_R slices_insertionSortCmpFunc_Lbyte_1de_G (((), a1, a2, ((), ())), a3) _ some = slices_insertionSortCmpFunc_Lbyte_1de a1 a2 a3 := by kernel_rfl
theorem slices_insertionSortCmpFunc_Lbyte_1de_ok : EntOK Tryd.prog 65 (ent slices_insertionSortCmpFunc_Lbyte_1de_P slices_insertionSortCmpFunc_Lbyte_1de_H slices_insertionSortCmpFunc_Lbyte_1de_R slices_insertionSortCmpFunc_Lbyte_1de_G (slices_insertionSortCmpFunc_Lbyte_1de_V (slices_insertionSortCmpFunc_Lbyte_1de))) :=
  ent_ok slices_insertionSortCmpFunc_Lbyte_1de_FH slices_insertionSortCmpFunc_Lbyte_1de_Cok (hp := slices_insertionSortCmpFunc_Lbyte_1de_H) (fn := Tryd.f65) (by kernel_rfl) slices_insertionSortCmpFunc_Lbyte_1de_l1_t fun (x : ((Unit × Int × Int × (Unit × Unit)) × List PD)) => slices_insertionSortCmpFunc_Lbyte_1de_b x.1.2.1 x.1.2.2.1 x.2

/-! slices_pdqsortCmpFunc_Lbyte_71e: slices.pdqsortCmpFunc[[]byte] -/
noncomputable def slices_pdqsortCmpFunc_Lbyte_71e_l2p : SP := { n := 148, ix := [0, 1, 2, 3, 4, 10, 11], p := (.cons (.ref 0) (.cons (.int .i64) (.cons (.int .i64) (.cons (.int .i64) (.cons (.clo 21 .nil .nil) (.cons .bool .bool)))))), hp := [(.arrS 1 29 1)] }
noncomputable def slices_pdqsortCmpFunc_Lbyte_71e_l2x : List (Ex × SP) := [(.ret, { n := 148, ix := [], p := .nil, hp := [(.arrS 1 29 1)] })]
noncomputable def slices_pdqsortCmpFunc_Lbyte_71e_P : Pt := (.cons (.ref 0) (.cons (.int .i64) (.cons (.int .i64) (.cons (.int .i64) (.clo 21 .nil .nil)))))
noncomputable def slices_pdqsortCmpFunc_Lbyte_71e_H : List Po := [(.arrS 1 29 1)]
noncomputable def slices_pdqsortCmpFunc_Lbyte_71e_R : Pt := (.tup .nil)
noncomputable def slices_pdqsortCmpFunc_Lbyte_71e_G : List Po := [(.arrS 1 29 1)]
noncomputable def slices_pdqsortCmpFunc_Lbyte_71e_V (f : Int → Int → Int → (List PD) → Option (Unit × List PD)) (x : ((Unit × Int × Int × Int × (Unit × Unit)) × List PD)) : Option (Unit × List PD) := f x.1.2.1 x.1.2.2.1 x.1.2.2.2.1 x.2
noncomputable def slices_pdqsortCmpFunc_Lbyte_71e_C : Cal := tbl [(65, (ent slices_insertionSortCmpFunc_Lbyte_1de_P slices_insertionSortCmpFunc_Lbyte_1de_H slices_insertionSortCmpFunc_Lbyte_1de_R slices_insertionSortCmpFunc_Lbyte_1de_G (slices_insertionSortCmpFunc_Lbyte_1de_V (slices_insertionSortCmpFunc_Lbyte_1de))))]
theorem slices_pdqsortCmpFunc_Lbyte_71e_Cok : CalOK Tryd.prog slices_pdqsortCmpFunc_Lbyte_71e_C ∧ CalNt slices_pdqsortCmpFunc_Lbyte_71e_C := by
  unfold slices_pdqsortCmpFunc_Lbyte_71e_C
  exact tbl_ok (by
    intro p hp
    simp only [List.mem_cons, List.not_mem_nil, or_false] at hp
    rcases hp with rfl
    exact slices_insertionSortCmpFunc_Lbyte_1de_ok)
noncomputable def slices_pdqsortCmpFunc_Lbyte_71e_FH : FH := { loops := [(2, { keep := [0, 1, 2, 3, 4, 10, 11] }, { keep := [] })], ops := [(4, [(4, (.inout [0]))])] }
theorem slices_pdqsortCmpFunc_Lbyte_71e_l2_s (a1 : Int) (a2 : Int) (a3 : Int) (a4 : Bool) (a5 : Bool) (a6 : List PD) : stepC Tryd.prog slices_pdqsortCmpFunc_Lbyte_71e_C slices_pdqsortCmpFunc_Lbyte_71e_FH [] [] 1 ((loopsAt 2 (codeOf Tryd.f44)).headD .skip) slices_pdqsortCmpFunc_Lbyte_71e_l2p slices_pdqsortCmpFunc_Lbyte_71e_l2x { keep := [0, 1, 2, 3, 4, 10, 11] } { keep := [] } (((), a1, a2, a3, ((), ()), a4, a5), a6) _ some = slices_pdqsortCmpFunc_Lbyte_71e_l2 (((), a1, a2, a3, ((), ()), a4, a5), a6) := by kernel_rfl
theorem slices_pdqsortCmpFunc_Lbyte_71e_l2_t : ToldC Tryd.prog 1 (codeOf Tryd.f44) ((2, toldL slices_pdqsortCmpFunc_Lbyte_71e_l2p slices_pdqsortCmpFunc_Lbyte_71e_l2x slices_pdqsortCmpFunc_Lbyte_71e_l2) :: []) [] :=
  ToldC.loop slices_pdqsortCmpFunc_Lbyte_71e_FH 1 (ToldC.nil 1) slices_pdqsortCmpFunc_Lbyte_71e_Cok 2 ((loopsAt 2 (codeOf Tryd.f44)).headD .skip) (by kernel_rfl) (p := slices_pdqsortCmpFunc_Lbyte_71e_l2p) (px := slices_pdqsortCmpFunc_Lbyte_71e_l2x) (g := slices_pdqsortCmpFunc_Lbyte_71e_l2) (hi := { keep := [0, 1, 2, 3, 4, 10, 11] }) (ho := { keep := [] }) (by kernel_rfl) fun (x : ((Unit × Int × Int × Int × (Unit × Unit) × Bool × Bool) × List PD)) => slices_pdqsortCmpFunc_Lbyte_71e_l2_s x.1.2.1 x.1.2.2.1 x.1.2.2.2.1 x.1.2.2.2.2.2.1 x.1.2.2.2.2.2.2 x.2
theorem slices_pdqsortCmpFunc_Lbyte_71e_b (a1 : Int) (a2 : Int) (a3 : Int) (a4 : List PD) : bodyC Tryd.prog slices_pdqsortCmpFunc_Lbyte_71e_C slices_pdqsortCmpFunc_Lbyte_71e_FH ((2, toldL slices_pdqsortCmpFunc_Lbyte_71e_l2p slices_pdqsortCmpFunc_Lbyte_71e_l2x slices_pdqsortCmpFunc_Lbyte_71e_l2) :: []) [] { keep := [] } 44 slices_pdqsortCmpFunc_Lbyte_71e_P slices_pdqsortCmpFunc_Lbyte_71e_H slices_pdqsortCmpFunc_Lbyte_71e_R slices_pdqsortCmpFunc_Lbyte_71e_G (((), a1, a2, a3, ((), ())), a4) _ some = slices_pdqsortCmpFunc_Lbyte_71e a1 a2 a3 a4 := by kernel_rfl
theorem slices_pdqsortCmpFunc_Lbyte_71e_ok : EntOK Tryd.prog 44 (ent slices_pdqsortCmpFunc_Lbyte_71e_P slices_pdqsortCmpFunc_Lbyte_71e_H slices_pdqsortCmpFunc_Lbyte_71e_R slices_pdqsortCmpFunc_Lbyte_71e_G (slices_pdqsortCmpFunc_Lbyte_71e_V (slices_pdqsortCmpFunc_Lbyte_71e))) :=
  ent_ok slices_pdqsortCmpFunc_Lbyte_71e_FH slices_pdqsortCmpFunc_Lbyte_71e_Cok (hp := slices_pdqsortCmpFunc_Lbyte_71e_H) (fn := Tryd.f44) (by kernel_rfl) slices_pdqsortCmpFunc_Lbyte_71e_l2_t fun (x : ((Unit × Int × Int × Int × (Unit × Unit)) × List PD)) => slices_pdqsortCmpFunc_Lbyte_71e_b x.1.2.1 x.1.2.2.1 x.1.2.2.2.1 x.2

/-! slices_SortFunc_LLbyte_Lbyte_e55: slices.SortFunc[[][]byte,[]byte] -/
noncomputable def slices_SortFunc_LLbyte_Lbyte_e55_P : Pt := (.cons (.ref 0) (.clo 21 .nil .nil))
noncomputable def slices_SortFunc_LLbyte_Lbyte_e55_H : List Po := [(.arrS 1 29 1)]
noncomputable def slices_SortFunc_LLbyte_Lbyte_e55_R : Pt := (.tup .nil)
noncomputable def slices_SortFunc_LLbyte_Lbyte_e55_G : List Po := [(.arrS 1 29 1)]
noncomputable def slices_SortFunc_LLbyte_Lbyte_e55_V (f : (List PD) → Option (Unit × List PD)) (x : ((Unit × (Unit × Unit)) × List PD)) : Option (Unit × List PD) := f x.2
noncomputable def slices_SortFunc_LLbyte_Lbyte_e55_C : Cal := tbl [(45, (ent bits_Len_P bits_Len_H bits_Len_R bits_Len_G (bits_Len_V (bits_Len)))), (44, (ent slices_pdqsortCmpFunc_Lbyte_71e_P slices_pdqsortCmpFunc_Lbyte_71e_H slices_pdqsortCmpFunc_Lbyte_71e_R slices_pdqsortCmpFunc_Lbyte_71e_G (slices_pdqsortCmpFunc_Lbyte_71e_V (slices_pdqsortCmpFunc_Lbyte_71e))))]
theorem slices_SortFunc_LLbyte_Lbyte_e55_Cok : CalOK Tryd.prog slices_SortFunc_LLbyte_Lbyte_e55_C ∧ CalNt slices_SortFunc_LLbyte_Lbyte_e55_C := by
  unfold slices_SortFunc_LLbyte_Lbyte_e55_C
  exact tbl_ok (by
    intro p hp
    simp only [List.mem_cons, List.not_mem_nil, or_false] at hp
    rcases hp with rfl | rfl
    · exact bits_Len_ok
    · exact slices_pdqsortCmpFunc_Lbyte_71e_ok)
noncomputable def slices_SortFunc_LLbyte_Lbyte_e55_FH : FH := { ops := [(1, [(6, (.inout [0]))])] }
theorem slices_SortFunc_LLbyte_Lbyte_e55_b (a1 : List PD) : bodyC Tryd.prog slices_SortFunc_LLbyte_Lbyte_e55_C slices_SortFunc_LLbyte_Lbyte_e55_FH [] [] { keep := [] } 20 slices_SortFunc_LLbyte_Lbyte_e55_P slices_SortFunc_LLbyte_Lbyte_e55_H slices_SortFunc_LLbyte_Lbyte_e55_R slices_SortFunc_LLbyte_Lbyte_e55_G (((), ((), ())), a1) _ some = slices_SortFunc_LLbyte_Lbyte_e55 a1 := by kernel_rfl
theorem slices_SortFunc_LLbyte_Lbyte_e55_ok : EntOK Tryd.prog 20 (ent slices_SortFunc_LLbyte_Lbyte_e55_P slices_SortFunc_LLbyte_Lbyte_e55_H slices_SortFunc_LLbyte_Lbyte_e55_R slices_SortFunc_LLbyte_Lbyte_e55_G (slices_SortFunc_LLbyte_Lbyte_e55_V (slices_SortFunc_LLbyte_Lbyte_e55))) :=
  ent_ok slices_SortFunc_LLbyte_Lbyte_e55_FH slices_SortFunc_LLbyte_Lbyte_e55_Cok (hp := slices_SortFunc_LLbyte_Lbyte_e55_H) (fn := Tryd.f20) (by kernel_rfl) (ToldC.nil 1) fun (x : ((Unit × (Unit × Unit)) × List PD)) => slices_SortFunc_LLbyte_Lbyte_e55_b x.2

/-! account_Allowed: passkey/account.Allowed -/
noncomputable def account_Allowed_j8p : SP := { n := 64, ix := [1, 2, 7, 11, 25, 26, 27], p := (.cons (.int .u64) (.cons .str (.cons (.ref 0) (.cons (.ptr 1 0) (.cons (.sl 11) (.cons (.int .i64) (.int .i64))))))), hp := [(.arrS 1 29 1), (.cells (.cons (.nums .u8) (.cons (.int .i64) (.cons (.int .u64) (.cons (.int .u64) (.cons (.int .i64) (.cons .bool (.cons (.int .u64) (.cons (.sl 2) (.cons .bool (.cons (.int .i64) (.int .i64))))))))))))] }
noncomputable def account_Allowed_j8x : List (Ex × SP) := [(.norm, { n := 64, ix := [1, 2, 7, 25, 26, 27], p := (.cons (.int .u64) (.cons .str (.cons (.ref 0) (.cons (.sl 11) (.cons (.int .i64) (.int .i64)))))), hp := [(.arrS 1 29 1)] })]
noncomputable def account_Allowed_l5p : SP := { n := 64, ix := [1, 2, 7, 25, 26, 27], p := (.cons (.int .u64) (.cons .str (.cons (.ref 0) (.cons (.sl 11) (.cons (.int .i64) (.int .i64)))))), hp := [(.arrS 1 29 1)] }
noncomputable def account_Allowed_l5x : List (Ex × SP) := [((.exit 0), { n := 64, ix := [1, 2, 7], p := (.cons (.int .u64) (.cons .str (.ref 0))), hp := [(.arrS 1 29 1)] })]
noncomputable def account_Allowed_l12p : SP := { n := 64, ix := [7, 12, 13], p := (.cons (.ref 0) (.cons (.int .u64) (.int .u64))), hp := [(.arrS 1 29 1)] }
noncomputable def account_Allowed_l12x : List (Ex × SP) := [((.exit 2), { n := 64, ix := [7], p := (.ref 0), hp := [(.arrS 1 29 1)] })]
noncomputable def account_Allowed_j10p : SP := { n := 64, ix := [1, 2, 7], p := (.cons (.int .u64) (.cons .str (.ref 0))), hp := [(.arrS 1 29 1)] }
noncomputable def account_Allowed_j10x : List (Ex × SP) := [(.ret, { n := 64, ix := [6], p := (.ref 0), hp := [(.arrS 1 29 1)] })]
noncomputable def account_Allowed_P : Pt := (.cons (.sl 3) (.cons (.int .u64) .str))
noncomputable def account_Allowed_H : List Po := []
noncomputable def account_Allowed_R : Pt := (.ref 0)
noncomputable def account_Allowed_G : List Po := [(.arrS 1 29 1)]
noncomputable def account_Allowed_V (f : (List PD) → Int → ByteArray → Option (Unit × List PD)) (x : (List PD × Int × ByteArray)) : Option (Unit × List PD) := f x.1 x.2.1 x.2.2
noncomputable def account_Allowed_C : Cal := tbl [(13, (ent account_Find_P account_Find_H account_Find_R account_Find_G (account_Find_V (account_Find)))), (18, (ent slices_Clone_Lbyte_byte_P slices_Clone_Lbyte_byte_H slices_Clone_Lbyte_byte_R slices_Clone_Lbyte_byte_G (slices_Clone_Lbyte_byte_V (slices_Clone_Lbyte_byte)))), (15, (ent digest_Mac_P digest_Mac_H digest_Mac_R digest_Mac_G (digest_Mac_V (digest_Mac)))), (19, (ent seal_Stream_P seal_Stream_H seal_Stream_R seal_Stream_G (seal_Stream_V (seal_Stream)))), (20, (ent slices_SortFunc_LLbyte_Lbyte_e55_P slices_SortFunc_LLbyte_Lbyte_e55_H slices_SortFunc_LLbyte_Lbyte_e55_R slices_SortFunc_LLbyte_Lbyte_e55_G (slices_SortFunc_LLbyte_Lbyte_e55_V (slices_SortFunc_LLbyte_Lbyte_e55))))]
theorem account_Allowed_Cok : CalOK Tryd.prog account_Allowed_C ∧ CalNt account_Allowed_C := by
  unfold account_Allowed_C
  exact tbl_ok (by
    intro p hp
    simp only [List.mem_cons, List.not_mem_nil, or_false] at hp
    rcases hp with rfl | rfl | rfl | rfl | rfl
    · exact account_Find_ok
    · exact slices_Clone_Lbyte_byte_ok
    · exact digest_Mac_ok
    · exact seal_Stream_ok
    · exact slices_SortFunc_LLbyte_Lbyte_e55_ok)
noncomputable def account_Allowed_FH : FH := { join := [(8, { keep := [1, 2, 7, 11, 25, 26, 27] }), (10, { keep := [1, 2, 7], own := [(7, 29)] })], loops := [(5, { keep := [1, 2, 7, 25, 26, 27], own := [(7, 29)] }, { keep := [1, 2, 6, 7] }), (12, { keep := [7, 12, 13] }, { keep := [6, 7] })], ops := [(10, [(3, .borrow)]), (15, [(1, (.inout [0]))])] }
theorem account_Allowed_j8_s (a1 : Int) (a2 : ByteArray) (a3 : List PD) (a4 : Int) (a5 : Int) (a6 : List PD) (a7 : List Int) (a8 : Int) (a9 : Int) (a10 : Int) (a11 : Int) (a12 : Bool) (a13 : Int) (a14 : List PD) (a15 : Bool) (a16 : Int) (a17 : Int) : joinC Tryd.prog account_Allowed_C account_Allowed_FH [] [] 0 ((joinsAt 8 (codeOf Tryd.f8)).headD .skip) account_Allowed_j8p account_Allowed_j8x { keep := [1, 2, 6, 7, 25, 26, 27] } ((a1, a2, (), (), a3, a4, a5), (a6, (a7, a8, a9, a10, a11, a12, a13, a14, a15, a16, a17))) _ some = account_Allowed_j8 ((a1, a2, (), (), a3, a4, a5), (a6, (a7, a8, a9, a10, a11, a12, a13, a14, a15, a16, a17))) := by kernel_rfl
theorem account_Allowed_j8_t : ToldC Tryd.prog 0 (codeOf Tryd.f8) [] ((8, toldJ account_Allowed_j8p account_Allowed_j8x account_Allowed_j8) :: []) :=
  ToldC.join account_Allowed_FH 0 (ToldC.nil 0) account_Allowed_Cok 8 ((joinsAt 8 (codeOf Tryd.f8)).headD .skip) (by kernel_rfl) (p := account_Allowed_j8p) (px := account_Allowed_j8x) (g := account_Allowed_j8) (ho := { keep := [1, 2, 6, 7, 25, 26, 27] }) fun (x : ((Int × ByteArray × Unit × Unit × List PD × Int × Int) × (List PD × (List Int × Int × Int × Int × Int × Bool × Int × List PD × Bool × Int × Int)))) => account_Allowed_j8_s x.1.1 x.1.2.1 x.1.2.2.2.2.1 x.1.2.2.2.2.2.1 x.1.2.2.2.2.2.2 x.2.1 x.2.2.1 x.2.2.2.1 x.2.2.2.2.1 x.2.2.2.2.2.1 x.2.2.2.2.2.2.1 x.2.2.2.2.2.2.2.1 x.2.2.2.2.2.2.2.2.1 x.2.2.2.2.2.2.2.2.2.1 x.2.2.2.2.2.2.2.2.2.2.1 x.2.2.2.2.2.2.2.2.2.2.2.1 x.2.2.2.2.2.2.2.2.2.2.2.2
theorem account_Allowed_l5_s (a1 : Int) (a2 : ByteArray) (a3 : List PD) (a4 : Int) (a5 : Int) (a6 : List PD) : stepC Tryd.prog account_Allowed_C account_Allowed_FH [] ((8, toldJ account_Allowed_j8p account_Allowed_j8x account_Allowed_j8) :: []) 0 ((loopsAt 5 (codeOf Tryd.f8)).headD .skip) account_Allowed_l5p account_Allowed_l5x { keep := [1, 2, 7, 25, 26, 27], own := [(7, 29)] } { keep := [1, 2, 6, 7] } ((a1, a2, (), a3, a4, a5), a6) _ some = account_Allowed_l5 ((a1, a2, (), a3, a4, a5), a6) := by kernel_rfl
theorem account_Allowed_l5_t : ToldC Tryd.prog 0 (codeOf Tryd.f8) ((5, toldL account_Allowed_l5p account_Allowed_l5x account_Allowed_l5) :: []) ((8, toldJ account_Allowed_j8p account_Allowed_j8x account_Allowed_j8) :: []) :=
  ToldC.loop account_Allowed_FH 0 account_Allowed_j8_t account_Allowed_Cok 5 ((loopsAt 5 (codeOf Tryd.f8)).headD .skip) (by kernel_rfl) (p := account_Allowed_l5p) (px := account_Allowed_l5x) (g := account_Allowed_l5) (hi := { keep := [1, 2, 7, 25, 26, 27], own := [(7, 29)] }) (ho := { keep := [1, 2, 6, 7] }) (by kernel_rfl) fun (x : ((Int × ByteArray × Unit × List PD × Int × Int) × List PD)) => account_Allowed_l5_s x.1.1 x.1.2.1 x.1.2.2.2.1 x.1.2.2.2.2.1 x.1.2.2.2.2.2 x.2
theorem account_Allowed_l12_s (a1 : Int) (a2 : Int) (a3 : List PD) : stepC Tryd.prog account_Allowed_C account_Allowed_FH ((5, toldL account_Allowed_l5p account_Allowed_l5x account_Allowed_l5) :: []) ((8, toldJ account_Allowed_j8p account_Allowed_j8x account_Allowed_j8) :: []) 0 ((loopsAt 12 (codeOf Tryd.f8)).headD .skip) account_Allowed_l12p account_Allowed_l12x { keep := [7, 12, 13] } { keep := [6, 7] } (((), a1, a2), a3) _ some = account_Allowed_l12 (((), a1, a2), a3) := by kernel_rfl
theorem account_Allowed_l12_t : ToldC Tryd.prog 0 (codeOf Tryd.f8) ((12, toldL account_Allowed_l12p account_Allowed_l12x account_Allowed_l12) :: ((5, toldL account_Allowed_l5p account_Allowed_l5x account_Allowed_l5) :: [])) ((8, toldJ account_Allowed_j8p account_Allowed_j8x account_Allowed_j8) :: []) :=
  ToldC.loop account_Allowed_FH 0 account_Allowed_l5_t account_Allowed_Cok 12 ((loopsAt 12 (codeOf Tryd.f8)).headD .skip) (by kernel_rfl) (p := account_Allowed_l12p) (px := account_Allowed_l12x) (g := account_Allowed_l12) (hi := { keep := [7, 12, 13] }) (ho := { keep := [6, 7] }) (by kernel_rfl) fun (x : ((Unit × Int × Int) × List PD)) => account_Allowed_l12_s x.1.2.1 x.1.2.2 x.2
theorem account_Allowed_j10_s (a1 : Int) (a2 : ByteArray) (a3 : List PD) : joinC Tryd.prog account_Allowed_C account_Allowed_FH ((12, toldL account_Allowed_l12p account_Allowed_l12x account_Allowed_l12) :: ((5, toldL account_Allowed_l5p account_Allowed_l5x account_Allowed_l5) :: [])) ((8, toldJ account_Allowed_j8p account_Allowed_j8x account_Allowed_j8) :: []) 0 ((joinsAt 10 (codeOf Tryd.f8)).headD .skip) account_Allowed_j10p account_Allowed_j10x { keep := [6] } ((a1, a2, ()), a3) _ some = account_Allowed_j10 ((a1, a2, ()), a3) := by kernel_rfl
theorem account_Allowed_j10_t : ToldC Tryd.prog 0 (codeOf Tryd.f8) ((12, toldL account_Allowed_l12p account_Allowed_l12x account_Allowed_l12) :: ((5, toldL account_Allowed_l5p account_Allowed_l5x account_Allowed_l5) :: [])) ((10, toldJ account_Allowed_j10p account_Allowed_j10x account_Allowed_j10) :: ((8, toldJ account_Allowed_j8p account_Allowed_j8x account_Allowed_j8) :: [])) :=
  ToldC.join account_Allowed_FH 0 account_Allowed_l12_t account_Allowed_Cok 10 ((joinsAt 10 (codeOf Tryd.f8)).headD .skip) (by kernel_rfl) (p := account_Allowed_j10p) (px := account_Allowed_j10x) (g := account_Allowed_j10) (ho := { keep := [6] }) fun (x : ((Int × ByteArray × Unit) × List PD)) => account_Allowed_j10_s x.1.1 x.1.2.1 x.2
theorem account_Allowed_b (a1 : List PD) (a2 : Int) (a3 : ByteArray) : bodyC Tryd.prog account_Allowed_C account_Allowed_FH ((12, toldL account_Allowed_l12p account_Allowed_l12x account_Allowed_l12) :: ((5, toldL account_Allowed_l5p account_Allowed_l5x account_Allowed_l5) :: [])) ((10, toldJ account_Allowed_j10p account_Allowed_j10x account_Allowed_j10) :: ((8, toldJ account_Allowed_j8p account_Allowed_j8x account_Allowed_j8) :: [])) { keep := [] } 8 account_Allowed_P account_Allowed_H account_Allowed_R account_Allowed_G (a1, a2, a3) _ some = account_Allowed a1 a2 a3 := by kernel_rfl
theorem account_Allowed_ok : EntOK Tryd.prog 8 (ent account_Allowed_P account_Allowed_H account_Allowed_R account_Allowed_G (account_Allowed_V (account_Allowed))) :=
  ent_ok account_Allowed_FH account_Allowed_Cok (hp := account_Allowed_H) (fn := Tryd.f8) (by kernel_rfl) account_Allowed_j10_t fun (x : (List PD × Int × ByteArray)) => account_Allowed_b x.1 x.2.1 x.2.2

/-! law30_awake: passkey/passkeylaw30.awake -/
noncomputable def law30_awake_P : Pt := .nil
noncomputable def law30_awake_H : List Po := []
noncomputable def law30_awake_R : Pt := .bool
noncomputable def law30_awake_G : List Po := []
noncomputable def law30_awake_V (f : Option Bool) (x : Unit) : Option Bool := f
noncomputable def law30_awake_C : Cal := tbl [(11, (ent law30_stored_P law30_stored_H law30_stored_R law30_stored_G (law30_stored_V (law30_stored)))), (10, (ent account_Accept_P account_Accept_H account_Accept_R account_Accept_G (account_Accept_V (account_Accept)))), (12, (ent account_Enroll_P account_Enroll_H account_Enroll_R account_Enroll_G (account_Enroll_V (account_Enroll)))), (13, (ent account_Find_P account_Find_H account_Find_R account_Find_G (account_Find_V (account_Find)))), (8, (ent account_Allowed_P account_Allowed_H account_Allowed_R account_Allowed_G (account_Allowed_V (account_Allowed))))]
theorem law30_awake_Cok : CalOK Tryd.prog law30_awake_C ∧ CalNt law30_awake_C := by
  unfold law30_awake_C
  exact tbl_ok (by
    intro p hp
    simp only [List.mem_cons, List.not_mem_nil, or_false] at hp
    rcases hp with rfl | rfl | rfl | rfl | rfl
    · exact law30_stored_ok
    · exact account_Accept_ok
    · exact account_Enroll_ok
    · exact account_Find_ok
    · exact account_Allowed_ok)
noncomputable def law30_awake_FH : FH := { ops := [(6, [(1, .borrow)])] }
theorem law30_awake_b : bodyC Tryd.prog law30_awake_C law30_awake_FH [] [] { keep := [] } 4 law30_awake_P law30_awake_H law30_awake_R law30_awake_G () _ some = law30_awake := by kernel_rfl
theorem law30_awake_ok : EntOK Tryd.prog 4 (ent law30_awake_P law30_awake_H law30_awake_R law30_awake_G (law30_awake_V (law30_awake))) :=
  ent_ok law30_awake_FH law30_awake_Cok (hp := law30_awake_H) (fn := Tryd.f4) (by kernel_rfl) (ToldC.nil 0) fun (x : Unit) => law30_awake_b

/-! strconv_small: internal/strconv.small -/
noncomputable def strconv_small_P : Pt := (.int .i64)
noncomputable def strconv_small_H : List Po := []
noncomputable def strconv_small_R : Pt := .str
noncomputable def strconv_small_G : List Po := []
noncomputable def strconv_small_V (f : Int → Option ByteArray) (x : Int) : Option ByteArray := f x
noncomputable def strconv_small_C : Cal := tbl []
theorem strconv_small_Cok : CalOK Tryd.prog strconv_small_C ∧ CalNt strconv_small_C := by
  unfold strconv_small_C
  exact tbl_ok (by intro p hp; simp at hp)
noncomputable def strconv_small_FH : FH := {}
theorem strconv_small_b (a1 : Int) : bodyC Tryd.prog strconv_small_C strconv_small_FH [] [] { keep := [] } 52 strconv_small_P strconv_small_H strconv_small_R strconv_small_G a1 _ some = strconv_small a1 := by kernel_rfl
theorem strconv_small_ok : EntOK Tryd.prog 52 (ent strconv_small_P strconv_small_H strconv_small_R strconv_small_G (strconv_small_V (strconv_small))) :=
  ent_ok strconv_small_FH strconv_small_Cok (hp := strconv_small_H) (fn := Tryd.f52) (by kernel_rfl) (ToldC.nil 0) fun (x : Int) => strconv_small_b x

/-! strconv_log10Pow2: internal/strconv.log10Pow2 -/
noncomputable def strconv_log10Pow2_P : Pt := (.int .i64)
noncomputable def strconv_log10Pow2_H : List Po := []
noncomputable def strconv_log10Pow2_R : Pt := (.int .i64)
noncomputable def strconv_log10Pow2_G : List Po := []
noncomputable def strconv_log10Pow2_V (f : Int → Option Int) (x : Int) : Option Int := f x
noncomputable def strconv_log10Pow2_C : Cal := tbl []
theorem strconv_log10Pow2_Cok : CalOK Tryd.prog strconv_log10Pow2_C ∧ CalNt strconv_log10Pow2_C := by
  unfold strconv_log10Pow2_C
  exact tbl_ok (by intro p hp; simp at hp)
noncomputable def strconv_log10Pow2_FH : FH := {}
theorem strconv_log10Pow2_b (a1 : Int) : bodyC Tryd.prog strconv_log10Pow2_C strconv_log10Pow2_FH [] [] { keep := [] } 77 strconv_log10Pow2_P strconv_log10Pow2_H strconv_log10Pow2_R strconv_log10Pow2_G a1 _ some = strconv_log10Pow2 a1 := by kernel_rfl
theorem strconv_log10Pow2_ok : EntOK Tryd.prog 77 (ent strconv_log10Pow2_P strconv_log10Pow2_H strconv_log10Pow2_R strconv_log10Pow2_G (strconv_log10Pow2_V (strconv_log10Pow2))) :=
  ent_ok strconv_log10Pow2_FH strconv_log10Pow2_Cok (hp := strconv_log10Pow2_H) (fn := Tryd.f77) (by kernel_rfl) (ToldC.nil 0) fun (x : Int) => strconv_log10Pow2_b x

/-! strconv_bool2_int: internal/strconv.bool2[int] -/
noncomputable def strconv_bool2_int_P : Pt := .bool
noncomputable def strconv_bool2_int_H : List Po := []
noncomputable def strconv_bool2_int_R : Pt := (.int .i64)
noncomputable def strconv_bool2_int_G : List Po := []
noncomputable def strconv_bool2_int_V (f : Bool → Option Int) (x : Bool) : Option Int := f x
noncomputable def strconv_bool2_int_C : Cal := tbl []
theorem strconv_bool2_int_Cok : CalOK Tryd.prog strconv_bool2_int_C ∧ CalNt strconv_bool2_int_C := by
  unfold strconv_bool2_int_C
  exact tbl_ok (by intro p hp; simp at hp)
noncomputable def strconv_bool2_int_FH : FH := {}
theorem strconv_bool2_int_b (a1 : Bool) : bodyC Tryd.prog strconv_bool2_int_C strconv_bool2_int_FH [] [] { keep := [] } 78 strconv_bool2_int_P strconv_bool2_int_H strconv_bool2_int_R strconv_bool2_int_G a1 _ some = strconv_bool2_int a1 := by kernel_rfl
theorem strconv_bool2_int_ok : EntOK Tryd.prog 78 (ent strconv_bool2_int_P strconv_bool2_int_H strconv_bool2_int_R strconv_bool2_int_G (strconv_bool2_int_V (strconv_bool2_int))) :=
  ent_ok strconv_bool2_int_FH strconv_bool2_int_Cok (hp := strconv_bool2_int_H) (fn := Tryd.f78) (by kernel_rfl) (ToldC.nil 0) fun (x : Bool) => strconv_bool2_int_b x

/-! strconv_numDigits: internal/strconv.numDigits -/
noncomputable def strconv_numDigits_P : Pt := (.int .u64)
noncomputable def strconv_numDigits_H : List Po := []
noncomputable def strconv_numDigits_R : Pt := (.int .i64)
noncomputable def strconv_numDigits_G : List Po := []
noncomputable def strconv_numDigits_V (f : Int → Option Int) (x : Int) : Option Int := f x
noncomputable def strconv_numDigits_C : Cal := tbl [(74, (ent bits_Len64_P bits_Len64_H bits_Len64_R bits_Len64_G (bits_Len64_V (bits_Len64)))), (77, (ent strconv_log10Pow2_P strconv_log10Pow2_H strconv_log10Pow2_R strconv_log10Pow2_G (strconv_log10Pow2_V (strconv_log10Pow2)))), (78, (ent strconv_bool2_int_P strconv_bool2_int_H strconv_bool2_int_R strconv_bool2_int_G (strconv_bool2_int_V (strconv_bool2_int))))]
theorem strconv_numDigits_Cok : CalOK Tryd.prog strconv_numDigits_C ∧ CalNt strconv_numDigits_C := by
  unfold strconv_numDigits_C
  exact tbl_ok (by
    intro p hp
    simp only [List.mem_cons, List.not_mem_nil, or_false] at hp
    rcases hp with rfl | rfl | rfl
    · exact bits_Len64_ok
    · exact strconv_log10Pow2_ok
    · exact strconv_bool2_int_ok)
noncomputable def strconv_numDigits_FH : FH := {}
theorem strconv_numDigits_b (a1 : Int) : bodyC Tryd.prog strconv_numDigits_C strconv_numDigits_FH [] [] { keep := [] } 53 strconv_numDigits_P strconv_numDigits_H strconv_numDigits_R strconv_numDigits_G a1 _ some = strconv_numDigits a1 := by kernel_rfl
theorem strconv_numDigits_ok : EntOK Tryd.prog 53 (ent strconv_numDigits_P strconv_numDigits_H strconv_numDigits_R strconv_numDigits_G (strconv_numDigits_V (strconv_numDigits))) :=
  ent_ok strconv_numDigits_FH strconv_numDigits_Cok (hp := strconv_numDigits_H) (fn := Tryd.f53) (by kernel_rfl) (ToldC.nil 0) fun (x : Int) => strconv_numDigits_b x

/-! strconv_isPowerOfTwo: internal/strconv.isPowerOfTwo -/
noncomputable def strconv_isPowerOfTwo_P : Pt := (.int .i64)
noncomputable def strconv_isPowerOfTwo_H : List Po := []
noncomputable def strconv_isPowerOfTwo_R : Pt := .bool
noncomputable def strconv_isPowerOfTwo_G : List Po := []
noncomputable def strconv_isPowerOfTwo_V (f : Int → Option Bool) (x : Int) : Option Bool := f x
noncomputable def strconv_isPowerOfTwo_C : Cal := tbl []
theorem strconv_isPowerOfTwo_Cok : CalOK Tryd.prog strconv_isPowerOfTwo_C ∧ CalNt strconv_isPowerOfTwo_C := by
  unfold strconv_isPowerOfTwo_C
  exact tbl_ok (by intro p hp; simp at hp)
noncomputable def strconv_isPowerOfTwo_FH : FH := {}
theorem strconv_isPowerOfTwo_b (a1 : Int) : bodyC Tryd.prog strconv_isPowerOfTwo_C strconv_isPowerOfTwo_FH [] [] { keep := [] } 79 strconv_isPowerOfTwo_P strconv_isPowerOfTwo_H strconv_isPowerOfTwo_R strconv_isPowerOfTwo_G a1 _ some = strconv_isPowerOfTwo a1 := by kernel_rfl
theorem strconv_isPowerOfTwo_ok : EntOK Tryd.prog 79 (ent strconv_isPowerOfTwo_P strconv_isPowerOfTwo_H strconv_isPowerOfTwo_R strconv_isPowerOfTwo_G (strconv_isPowerOfTwo_V (strconv_isPowerOfTwo))) :=
  ent_ok strconv_isPowerOfTwo_FH strconv_isPowerOfTwo_Cok (hp := strconv_isPowerOfTwo_H) (fn := Tryd.f79) (by kernel_rfl) (ToldC.nil 0) fun (x : Int) => strconv_isPowerOfTwo_b x

/-! bits_TrailingZeros64: math/bits.TrailingZeros64 -/
noncomputable def bits_TrailingZeros64_P : Pt := (.int .u64)
noncomputable def bits_TrailingZeros64_H : List Po := []
noncomputable def bits_TrailingZeros64_R : Pt := (.int .i64)
noncomputable def bits_TrailingZeros64_G : List Po := []
noncomputable def bits_TrailingZeros64_V (f : Int → Option Int) (x : Int) : Option Int := f x
noncomputable def bits_TrailingZeros64_C : Cal := tbl []
theorem bits_TrailingZeros64_Cok : CalOK Tryd.prog bits_TrailingZeros64_C ∧ CalNt bits_TrailingZeros64_C := by
  unfold bits_TrailingZeros64_C
  exact tbl_ok (by intro p hp; simp at hp)
noncomputable def bits_TrailingZeros64_FH : FH := {}
theorem bits_TrailingZeros64_b (a1 : Int) : bodyC Tryd.prog bits_TrailingZeros64_C bits_TrailingZeros64_FH [] [] { keep := [] } 92 bits_TrailingZeros64_P bits_TrailingZeros64_H bits_TrailingZeros64_R bits_TrailingZeros64_G a1 _ some = bits_TrailingZeros64 a1 := by kernel_rfl
theorem bits_TrailingZeros64_ok : EntOK Tryd.prog 92 (ent bits_TrailingZeros64_P bits_TrailingZeros64_H bits_TrailingZeros64_R bits_TrailingZeros64_G (bits_TrailingZeros64_V (bits_TrailingZeros64))) :=
  ent_ok bits_TrailingZeros64_FH bits_TrailingZeros64_Cok (hp := bits_TrailingZeros64_H) (fn := Tryd.f92) (by kernel_rfl) (ToldC.nil 0) fun (x : Int) => bits_TrailingZeros64_b x

/-! bits_TrailingZeros: math/bits.TrailingZeros -/
noncomputable def bits_TrailingZeros_P : Pt := (.int .u64)
noncomputable def bits_TrailingZeros_H : List Po := []
noncomputable def bits_TrailingZeros_R : Pt := (.int .i64)
noncomputable def bits_TrailingZeros_G : List Po := []
noncomputable def bits_TrailingZeros_V (f : Int → Option Int) (x : Int) : Option Int := f x
noncomputable def bits_TrailingZeros_C : Cal := tbl [(92, (ent bits_TrailingZeros64_P bits_TrailingZeros64_H bits_TrailingZeros64_R bits_TrailingZeros64_G (bits_TrailingZeros64_V (bits_TrailingZeros64))))]
theorem bits_TrailingZeros_Cok : CalOK Tryd.prog bits_TrailingZeros_C ∧ CalNt bits_TrailingZeros_C := by
  unfold bits_TrailingZeros_C
  exact tbl_ok (by
    intro p hp
    simp only [List.mem_cons, List.not_mem_nil, or_false] at hp
    rcases hp with rfl
    exact bits_TrailingZeros64_ok)
noncomputable def bits_TrailingZeros_FH : FH := {}
theorem bits_TrailingZeros_b (a1 : Int) : bodyC Tryd.prog bits_TrailingZeros_C bits_TrailingZeros_FH [] [] { keep := [] } 80 bits_TrailingZeros_P bits_TrailingZeros_H bits_TrailingZeros_R bits_TrailingZeros_G a1 _ some = bits_TrailingZeros a1 := by kernel_rfl
theorem bits_TrailingZeros_ok : EntOK Tryd.prog 80 (ent bits_TrailingZeros_P bits_TrailingZeros_H bits_TrailingZeros_R bits_TrailingZeros_G (bits_TrailingZeros_V (bits_TrailingZeros))) :=
  ent_ok bits_TrailingZeros_FH bits_TrailingZeros_Cok (hp := bits_TrailingZeros_H) (fn := Tryd.f80) (by kernel_rfl) (ToldC.nil 0) fun (x : Int) => bits_TrailingZeros_b x

/-! strconv_formatBits: internal/strconv.formatBits -/
noncomputable def strconv_formatBits_l11p : SP := { n := 102, ix := [0, 1, 3, 4, 10, 11, 12, 13, 14, 15, 16], p := (.cons (.nums .u8) (.cons (.int .u64) (.cons .bool (.cons .bool (.cons (.nums .u8) (.cons .str (.cons (.ptr 0 0) (.cons (.int .i64) (.cons (.int .u64) (.cons (.int .u64) (.int .u64))))))))))), hp := [(.ints .u8 65)] }
noncomputable def strconv_formatBits_l11x : List (Ex × SP) := [((.exit 0), { n := 102, ix := [0, 1, 3, 4, 10, 11, 12, 13], p := (.cons (.nums .u8) (.cons (.int .u64) (.cons .bool (.cons .bool (.cons (.nums .u8) (.cons .str (.cons (.ptr 0 0) (.int .i64)))))))), hp := [(.ints .u8 65)] })]
noncomputable def strconv_formatBits_j28p : SP := { n := 102, ix := [0, 4, 10, 11, 12, 13], p := (.cons (.nums .u8) (.cons .bool (.cons (.nums .u8) (.cons .str (.cons (.ptr 0 0) (.int .i64)))))), hp := [(.ints .u8 65)] }
noncomputable def strconv_formatBits_j28x : List (Ex × SP) := [(.ret, { n := 102, ix := [10, 11], p := (.cons (.nums .u8) .str) })]
noncomputable def strconv_formatBits_j25p : SP := { n := 102, ix := [0, 3, 4, 10, 11, 12, 13], p := (.cons (.nums .u8) (.cons .bool (.cons .bool (.cons (.nums .u8) (.cons .str (.cons (.ptr 0 0) (.int .i64))))))), hp := [(.ints .u8 65)] }
noncomputable def strconv_formatBits_j25x : List (Ex × SP) := [(.ret, { n := 102, ix := [10, 11], p := (.cons (.nums .u8) .str) })]
noncomputable def strconv_formatBits_l18p : SP := { n := 102, ix := [0, 1, 3, 4, 10, 11, 12, 13, 17], p := (.cons (.nums .u8) (.cons (.int .u64) (.cons .bool (.cons .bool (.cons (.nums .u8) (.cons .str (.cons (.ptr 0 0) (.cons (.int .i64) (.int .u64))))))))), hp := [(.ints .u8 65)] }
noncomputable def strconv_formatBits_l18x : List (Ex × SP) := [((.exit 2), { n := 102, ix := [0, 1, 3, 4, 10, 11, 12, 13], p := (.cons (.nums .u8) (.cons (.int .u64) (.cons .bool (.cons .bool (.cons (.nums .u8) (.cons .str (.cons (.ptr 0 0) (.int .i64)))))))), hp := [(.ints .u8 65)] })]
noncomputable def strconv_formatBits_j7p : SP := { n := 102, ix := [0, 1, 2, 3, 4, 10, 11, 12, 13], p := (.cons (.nums .u8) (.cons (.int .u64) (.cons (.int .i64) (.cons .bool (.cons .bool (.cons (.nums .u8) (.cons .str (.cons (.ptr 0 0) (.int .i64))))))))), hp := [(.ints .u8 65)] }
noncomputable def strconv_formatBits_j7x : List (Ex × SP) := [(.ret, { n := 102, ix := [10, 11], p := (.cons (.nums .u8) .str) })]
noncomputable def strconv_formatBits_j3p : SP := { n := 102, ix := [0, 1, 2, 3, 4, 10, 11], p := (.cons (.nums .u8) (.cons (.int .u64) (.cons (.int .i64) (.cons .bool (.cons .bool (.cons (.nums .u8) .str)))))) }
noncomputable def strconv_formatBits_j3x : List (Ex × SP) := [(.ret, { n := 102, ix := [10, 11], p := (.cons (.nums .u8) .str) })]
noncomputable def strconv_formatBits_P : Pt := (.cons (.nums .u8) (.cons (.int .u64) (.cons (.int .i64) (.cons .bool .bool))))
noncomputable def strconv_formatBits_H : List Po := []
noncomputable def strconv_formatBits_R : Pt := (.tup (.cons (.nums .u8) .str))
noncomputable def strconv_formatBits_G : List Po := []
noncomputable def strconv_formatBits_V (f : (List Int) → Int → Int → Bool → Bool → Option (List Int × ByteArray)) (x : (List Int × Int × Int × Bool × Bool)) : Option (List Int × ByteArray) := f x.1 x.2.1 x.2.2.1 x.2.2.2.1 x.2.2.2.2
noncomputable def strconv_formatBits_C : Cal := tbl [(79, (ent strconv_isPowerOfTwo_P strconv_isPowerOfTwo_H strconv_isPowerOfTwo_R strconv_isPowerOfTwo_G (strconv_isPowerOfTwo_V (strconv_isPowerOfTwo)))), (80, (ent bits_TrailingZeros_P bits_TrailingZeros_H bits_TrailingZeros_R bits_TrailingZeros_G (bits_TrailingZeros_V (bits_TrailingZeros))))]
theorem strconv_formatBits_Cok : CalOK Tryd.prog strconv_formatBits_C ∧ CalNt strconv_formatBits_C := by
  unfold strconv_formatBits_C
  exact tbl_ok (by
    intro p hp
    simp only [List.mem_cons, List.not_mem_nil, or_false] at hp
    rcases hp with rfl | rfl
    · exact strconv_isPowerOfTwo_ok
    · exact bits_TrailingZeros_ok)
noncomputable def strconv_formatBits_FH : FH := { join := [(28, { keep := [0, 4, 10, 11, 12, 13] }), (25, { keep := [0, 3, 4, 10, 11, 12, 13] }), (7, { keep := [0, 1, 2, 3, 4, 10, 11, 12, 13] }), (3, { keep := [0, 1, 2, 3, 4, 10, 11] })], loops := [(11, { keep := [0, 1, 3, 4, 10, 11, 12, 13, 14, 15, 16] }, { keep := [0, 1, 3, 4, 10, 11, 12, 13] }), (18, { keep := [0, 1, 3, 4, 10, 11, 12, 13, 17] }, { keep := [0, 1, 3, 4, 10, 11, 12, 13] })] }
theorem strconv_formatBits_l11_s (a1 : List Int) (a2 : Int) (a3 : Bool) (a4 : Bool) (a5 : List Int) (a6 : ByteArray) (a7 : Int) (a8 : Int) (a9 : Int) (a10 : Int) (a11 : List Int) : stepC Tryd.prog strconv_formatBits_C strconv_formatBits_FH [] [] 0 ((loopsAt 11 (codeOf Tryd.f55)).headD .skip) strconv_formatBits_l11p strconv_formatBits_l11x { keep := [0, 1, 3, 4, 10, 11, 12, 13, 14, 15, 16] } { keep := [0, 1, 3, 4, 10, 11, 12, 13] } ((a1, a2, a3, a4, a5, a6, (), a7, a8, a9, a10), a11) _ some = strconv_formatBits_l11 ((a1, a2, a3, a4, a5, a6, (), a7, a8, a9, a10), a11) := by kernel_rfl
theorem strconv_formatBits_l11_t : ToldC Tryd.prog 0 (codeOf Tryd.f55) ((11, toldL strconv_formatBits_l11p strconv_formatBits_l11x strconv_formatBits_l11) :: []) [] :=
  ToldC.loop strconv_formatBits_FH 0 (ToldC.nil 0) strconv_formatBits_Cok 11 ((loopsAt 11 (codeOf Tryd.f55)).headD .skip) (by kernel_rfl) (p := strconv_formatBits_l11p) (px := strconv_formatBits_l11x) (g := strconv_formatBits_l11) (hi := { keep := [0, 1, 3, 4, 10, 11, 12, 13, 14, 15, 16] }) (ho := { keep := [0, 1, 3, 4, 10, 11, 12, 13] }) (by kernel_rfl) fun (x : ((List Int × Int × Bool × Bool × List Int × ByteArray × Unit × Int × Int × Int × Int) × List Int)) => strconv_formatBits_l11_s x.1.1 x.1.2.1 x.1.2.2.1 x.1.2.2.2.1 x.1.2.2.2.2.1 x.1.2.2.2.2.2.1 x.1.2.2.2.2.2.2.2.1 x.1.2.2.2.2.2.2.2.2.1 x.1.2.2.2.2.2.2.2.2.2.1 x.1.2.2.2.2.2.2.2.2.2.2 x.2
theorem strconv_formatBits_j28_s (a1 : List Int) (a2 : Bool) (a3 : List Int) (a4 : ByteArray) (a5 : Int) (a6 : List Int) : joinC Tryd.prog strconv_formatBits_C strconv_formatBits_FH ((11, toldL strconv_formatBits_l11p strconv_formatBits_l11x strconv_formatBits_l11) :: []) [] 0 ((joinsAt 28 (codeOf Tryd.f55)).headD .skip) strconv_formatBits_j28p strconv_formatBits_j28x { keep := [10, 11] } ((a1, a2, a3, a4, (), a5), a6) _ some = strconv_formatBits_j28 ((a1, a2, a3, a4, (), a5), a6) := by kernel_rfl
theorem strconv_formatBits_j28_t : ToldC Tryd.prog 0 (codeOf Tryd.f55) ((11, toldL strconv_formatBits_l11p strconv_formatBits_l11x strconv_formatBits_l11) :: []) ((28, toldJ strconv_formatBits_j28p strconv_formatBits_j28x strconv_formatBits_j28) :: []) :=
  ToldC.join strconv_formatBits_FH 0 strconv_formatBits_l11_t strconv_formatBits_Cok 28 ((joinsAt 28 (codeOf Tryd.f55)).headD .skip) (by kernel_rfl) (p := strconv_formatBits_j28p) (px := strconv_formatBits_j28x) (g := strconv_formatBits_j28) (ho := { keep := [10, 11] }) fun (x : ((List Int × Bool × List Int × ByteArray × Unit × Int) × List Int)) => strconv_formatBits_j28_s x.1.1 x.1.2.1 x.1.2.2.1 x.1.2.2.2.1 x.1.2.2.2.2.2 x.2
theorem strconv_formatBits_j25_s (a1 : List Int) (a2 : Bool) (a3 : Bool) (a4 : List Int) (a5 : ByteArray) (a6 : Int) (a7 : List Int) : joinC Tryd.prog strconv_formatBits_C strconv_formatBits_FH ((11, toldL strconv_formatBits_l11p strconv_formatBits_l11x strconv_formatBits_l11) :: []) ((28, toldJ strconv_formatBits_j28p strconv_formatBits_j28x strconv_formatBits_j28) :: []) 0 ((joinsAt 25 (codeOf Tryd.f55)).headD .skip) strconv_formatBits_j25p strconv_formatBits_j25x { keep := [10, 11] } ((a1, a2, a3, a4, a5, (), a6), a7) _ some = strconv_formatBits_j25 ((a1, a2, a3, a4, a5, (), a6), a7) := by kernel_rfl
theorem strconv_formatBits_j25_t : ToldC Tryd.prog 0 (codeOf Tryd.f55) ((11, toldL strconv_formatBits_l11p strconv_formatBits_l11x strconv_formatBits_l11) :: []) ((25, toldJ strconv_formatBits_j25p strconv_formatBits_j25x strconv_formatBits_j25) :: ((28, toldJ strconv_formatBits_j28p strconv_formatBits_j28x strconv_formatBits_j28) :: [])) :=
  ToldC.join strconv_formatBits_FH 0 strconv_formatBits_j28_t strconv_formatBits_Cok 25 ((joinsAt 25 (codeOf Tryd.f55)).headD .skip) (by kernel_rfl) (p := strconv_formatBits_j25p) (px := strconv_formatBits_j25x) (g := strconv_formatBits_j25) (ho := { keep := [10, 11] }) fun (x : ((List Int × Bool × Bool × List Int × ByteArray × Unit × Int) × List Int)) => strconv_formatBits_j25_s x.1.1 x.1.2.1 x.1.2.2.1 x.1.2.2.2.1 x.1.2.2.2.2.1 x.1.2.2.2.2.2.2 x.2
theorem strconv_formatBits_l18_s (a1 : List Int) (a2 : Int) (a3 : Bool) (a4 : Bool) (a5 : List Int) (a6 : ByteArray) (a7 : Int) (a8 : Int) (a9 : List Int) : stepC Tryd.prog strconv_formatBits_C strconv_formatBits_FH ((11, toldL strconv_formatBits_l11p strconv_formatBits_l11x strconv_formatBits_l11) :: []) ((25, toldJ strconv_formatBits_j25p strconv_formatBits_j25x strconv_formatBits_j25) :: ((28, toldJ strconv_formatBits_j28p strconv_formatBits_j28x strconv_formatBits_j28) :: [])) 0 ((loopsAt 18 (codeOf Tryd.f55)).headD .skip) strconv_formatBits_l18p strconv_formatBits_l18x { keep := [0, 1, 3, 4, 10, 11, 12, 13, 17] } { keep := [0, 1, 3, 4, 10, 11, 12, 13] } ((a1, a2, a3, a4, a5, a6, (), a7, a8), a9) _ some = strconv_formatBits_l18 ((a1, a2, a3, a4, a5, a6, (), a7, a8), a9) := by kernel_rfl
theorem strconv_formatBits_l18_t : ToldC Tryd.prog 0 (codeOf Tryd.f55) ((18, toldL strconv_formatBits_l18p strconv_formatBits_l18x strconv_formatBits_l18) :: ((11, toldL strconv_formatBits_l11p strconv_formatBits_l11x strconv_formatBits_l11) :: [])) ((25, toldJ strconv_formatBits_j25p strconv_formatBits_j25x strconv_formatBits_j25) :: ((28, toldJ strconv_formatBits_j28p strconv_formatBits_j28x strconv_formatBits_j28) :: [])) :=
  ToldC.loop strconv_formatBits_FH 0 strconv_formatBits_j25_t strconv_formatBits_Cok 18 ((loopsAt 18 (codeOf Tryd.f55)).headD .skip) (by kernel_rfl) (p := strconv_formatBits_l18p) (px := strconv_formatBits_l18x) (g := strconv_formatBits_l18) (hi := { keep := [0, 1, 3, 4, 10, 11, 12, 13, 17] }) (ho := { keep := [0, 1, 3, 4, 10, 11, 12, 13] }) (by kernel_rfl) fun (x : ((List Int × Int × Bool × Bool × List Int × ByteArray × Unit × Int × Int) × List Int)) => strconv_formatBits_l18_s x.1.1 x.1.2.1 x.1.2.2.1 x.1.2.2.2.1 x.1.2.2.2.2.1 x.1.2.2.2.2.2.1 x.1.2.2.2.2.2.2.2.1 x.1.2.2.2.2.2.2.2.2 x.2
theorem strconv_formatBits_j7_s (a1 : List Int) (a2 : Int) (a3 : Int) (a4 : Bool) (a5 : Bool) (a6 : List Int) (a7 : ByteArray) (a8 : Int) (a9 : List Int) : joinC Tryd.prog strconv_formatBits_C strconv_formatBits_FH ((18, toldL strconv_formatBits_l18p strconv_formatBits_l18x strconv_formatBits_l18) :: ((11, toldL strconv_formatBits_l11p strconv_formatBits_l11x strconv_formatBits_l11) :: [])) ((25, toldJ strconv_formatBits_j25p strconv_formatBits_j25x strconv_formatBits_j25) :: ((28, toldJ strconv_formatBits_j28p strconv_formatBits_j28x strconv_formatBits_j28) :: [])) 0 ((joinsAt 7 (codeOf Tryd.f55)).headD .skip) strconv_formatBits_j7p strconv_formatBits_j7x { keep := [10, 11] } ((a1, a2, a3, a4, a5, a6, a7, (), a8), a9) _ some = strconv_formatBits_j7 ((a1, a2, a3, a4, a5, a6, a7, (), a8), a9) := by kernel_rfl
theorem strconv_formatBits_j7_t : ToldC Tryd.prog 0 (codeOf Tryd.f55) ((18, toldL strconv_formatBits_l18p strconv_formatBits_l18x strconv_formatBits_l18) :: ((11, toldL strconv_formatBits_l11p strconv_formatBits_l11x strconv_formatBits_l11) :: [])) ((7, toldJ strconv_formatBits_j7p strconv_formatBits_j7x strconv_formatBits_j7) :: ((25, toldJ strconv_formatBits_j25p strconv_formatBits_j25x strconv_formatBits_j25) :: ((28, toldJ strconv_formatBits_j28p strconv_formatBits_j28x strconv_formatBits_j28) :: []))) :=
  ToldC.join strconv_formatBits_FH 0 strconv_formatBits_l18_t strconv_formatBits_Cok 7 ((joinsAt 7 (codeOf Tryd.f55)).headD .skip) (by kernel_rfl) (p := strconv_formatBits_j7p) (px := strconv_formatBits_j7x) (g := strconv_formatBits_j7) (ho := { keep := [10, 11] }) fun (x : ((List Int × Int × Int × Bool × Bool × List Int × ByteArray × Unit × Int) × List Int)) => strconv_formatBits_j7_s x.1.1 x.1.2.1 x.1.2.2.1 x.1.2.2.2.1 x.1.2.2.2.2.1 x.1.2.2.2.2.2.1 x.1.2.2.2.2.2.2.1 x.1.2.2.2.2.2.2.2.2 x.2
theorem strconv_formatBits_j3_s (a1 : List Int) (a2 : Int) (a3 : Int) (a4 : Bool) (a5 : Bool) (a6 : List Int) (a7 : ByteArray) : joinC Tryd.prog strconv_formatBits_C strconv_formatBits_FH ((18, toldL strconv_formatBits_l18p strconv_formatBits_l18x strconv_formatBits_l18) :: ((11, toldL strconv_formatBits_l11p strconv_formatBits_l11x strconv_formatBits_l11) :: [])) ((7, toldJ strconv_formatBits_j7p strconv_formatBits_j7x strconv_formatBits_j7) :: ((25, toldJ strconv_formatBits_j25p strconv_formatBits_j25x strconv_formatBits_j25) :: ((28, toldJ strconv_formatBits_j28p strconv_formatBits_j28x strconv_formatBits_j28) :: []))) 0 ((joinsAt 3 (codeOf Tryd.f55)).headD .skip) strconv_formatBits_j3p strconv_formatBits_j3x { keep := [10, 11] } (a1, a2, a3, a4, a5, a6, a7) _ some = strconv_formatBits_j3 (a1, a2, a3, a4, a5, a6, a7) := by kernel_rfl
theorem strconv_formatBits_j3_t : ToldC Tryd.prog 0 (codeOf Tryd.f55) ((18, toldL strconv_formatBits_l18p strconv_formatBits_l18x strconv_formatBits_l18) :: ((11, toldL strconv_formatBits_l11p strconv_formatBits_l11x strconv_formatBits_l11) :: [])) ((3, toldJ strconv_formatBits_j3p strconv_formatBits_j3x strconv_formatBits_j3) :: ((7, toldJ strconv_formatBits_j7p strconv_formatBits_j7x strconv_formatBits_j7) :: ((25, toldJ strconv_formatBits_j25p strconv_formatBits_j25x strconv_formatBits_j25) :: ((28, toldJ strconv_formatBits_j28p strconv_formatBits_j28x strconv_formatBits_j28) :: [])))) :=
  ToldC.join strconv_formatBits_FH 0 strconv_formatBits_j7_t strconv_formatBits_Cok 3 ((joinsAt 3 (codeOf Tryd.f55)).headD .skip) (by kernel_rfl) (p := strconv_formatBits_j3p) (px := strconv_formatBits_j3x) (g := strconv_formatBits_j3) (ho := { keep := [10, 11] }) fun (x : (List Int × Int × Int × Bool × Bool × List Int × ByteArray)) => strconv_formatBits_j3_s x.1 x.2.1 x.2.2.1 x.2.2.2.1 x.2.2.2.2.1 x.2.2.2.2.2.1 x.2.2.2.2.2.2
theorem strconv_formatBits_b (a1 : List Int) (a2 : Int) (a3 : Int) (a4 : Bool) (a5 : Bool) : bodyC Tryd.prog strconv_formatBits_C strconv_formatBits_FH ((18, toldL strconv_formatBits_l18p strconv_formatBits_l18x strconv_formatBits_l18) :: ((11, toldL strconv_formatBits_l11p strconv_formatBits_l11x strconv_formatBits_l11) :: [])) ((3, toldJ strconv_formatBits_j3p strconv_formatBits_j3x strconv_formatBits_j3) :: ((7, toldJ strconv_formatBits_j7p strconv_formatBits_j7x strconv_formatBits_j7) :: ((25, toldJ strconv_formatBits_j25p strconv_formatBits_j25x strconv_formatBits_j25) :: ((28, toldJ strconv_formatBits_j28p strconv_formatBits_j28x strconv_formatBits_j28) :: [])))) { keep := [] } 55 strconv_formatBits_P strconv_formatBits_H strconv_formatBits_R strconv_formatBits_G (a1, a2, a3, a4, a5) _ some = strconv_formatBits a1 a2 a3 a4 a5 := by kernel_rfl
theorem strconv_formatBits_ok : EntOK Tryd.prog 55 (ent strconv_formatBits_P strconv_formatBits_H strconv_formatBits_R strconv_formatBits_G (strconv_formatBits_V (strconv_formatBits))) :=
  ent_ok strconv_formatBits_FH strconv_formatBits_Cok (hp := strconv_formatBits_H) (fn := Tryd.f55) (by kernel_rfl) strconv_formatBits_j3_t fun (x : (List Int × Int × Int × Bool × Bool)) => strconv_formatBits_b x.1 x.2.1 x.2.2.1 x.2.2.2.1 x.2.2.2.2

/-! strconv_FormatUintx: internal/strconv.FormatUint -/
noncomputable def strconv_FormatUintx_P : Pt := (.cons (.int .u64) (.int .i64))
noncomputable def strconv_FormatUintx_H : List Po := []
noncomputable def strconv_FormatUintx_R : Pt := .str
noncomputable def strconv_FormatUintx_G : List Po := []
noncomputable def strconv_FormatUintx_V (f : Int → Int → Option ByteArray) (x : (Int × Int)) : Option ByteArray := f x.1 x.2
noncomputable def strconv_FormatUintx_C : Cal := tbl [(52, (ent strconv_small_P strconv_small_H strconv_small_R strconv_small_G (strconv_small_V (strconv_small)))), (53, (ent strconv_numDigits_P strconv_numDigits_H strconv_numDigits_R strconv_numDigits_G (strconv_numDigits_V (strconv_numDigits)))), (55, (ent strconv_formatBits_P strconv_formatBits_H strconv_formatBits_R strconv_formatBits_G (strconv_formatBits_V (strconv_formatBits))))]
theorem strconv_FormatUintx_Cok : CalOK Tryd.prog strconv_FormatUintx_C ∧ CalNt strconv_FormatUintx_C := by
  unfold strconv_FormatUintx_C
  exact tbl_ok (by
    intro p hp
    simp only [List.mem_cons, List.not_mem_nil, or_false] at hp
    rcases hp with rfl | rfl | rfl
    · exact strconv_small_ok
    · exact strconv_numDigits_ok
    · exact strconv_formatBits_ok)
noncomputable def strconv_FormatUintx_FH : FH := {}
theorem strconv_FormatUintx_b (a1 : Int) (a2 : Int) : bodyC Tryd.prog strconv_FormatUintx_C strconv_FormatUintx_FH [] [] { keep := [] } 34 strconv_FormatUintx_P strconv_FormatUintx_H strconv_FormatUintx_R strconv_FormatUintx_G (a1, a2) _ some = strconv_FormatUintx a1 a2 := by kernel_rfl
theorem strconv_FormatUintx_ok : EntOK Tryd.prog 34 (ent strconv_FormatUintx_P strconv_FormatUintx_H strconv_FormatUintx_R strconv_FormatUintx_G (strconv_FormatUintx_V (strconv_FormatUintx))) :=
  ent_ok strconv_FormatUintx_FH strconv_FormatUintx_Cok (hp := strconv_FormatUintx_H) (fn := Tryd.f34) (by kernel_rfl) (ToldC.nil 0) fun (x : (Int × Int)) => strconv_FormatUintx_b x.1 x.2

/-! strconv_FormatUint: strconv.FormatUint -/
noncomputable def strconv_FormatUint_P : Pt := (.cons (.int .u64) (.int .i64))
noncomputable def strconv_FormatUint_H : List Po := []
noncomputable def strconv_FormatUint_R : Pt := .str
noncomputable def strconv_FormatUint_G : List Po := []
noncomputable def strconv_FormatUint_V (f : Int → Int → Option ByteArray) (x : (Int × Int)) : Option ByteArray := f x.1 x.2
noncomputable def strconv_FormatUint_C : Cal := tbl [(34, (ent strconv_FormatUintx_P strconv_FormatUintx_H strconv_FormatUintx_R strconv_FormatUintx_G (strconv_FormatUintx_V (strconv_FormatUintx))))]
theorem strconv_FormatUint_Cok : CalOK Tryd.prog strconv_FormatUint_C ∧ CalNt strconv_FormatUint_C := by
  unfold strconv_FormatUint_C
  exact tbl_ok (by
    intro p hp
    simp only [List.mem_cons, List.not_mem_nil, or_false] at hp
    rcases hp with rfl
    exact strconv_FormatUintx_ok)
noncomputable def strconv_FormatUint_FH : FH := {}
theorem strconv_FormatUint_b (a1 : Int) (a2 : Int) : bodyC Tryd.prog strconv_FormatUint_C strconv_FormatUint_FH [] [] { keep := [] } 14 strconv_FormatUint_P strconv_FormatUint_H strconv_FormatUint_R strconv_FormatUint_G (a1, a2) _ some = strconv_FormatUint a1 a2 := by kernel_rfl
theorem strconv_FormatUint_ok : EntOK Tryd.prog 14 (ent strconv_FormatUint_P strconv_FormatUint_H strconv_FormatUint_R strconv_FormatUint_G (strconv_FormatUint_V (strconv_FormatUint))) :=
  ent_ok strconv_FormatUint_FH strconv_FormatUint_Cok (hp := strconv_FormatUint_H) (fn := Tryd.f14) (by kernel_rfl) (ToldC.nil 0) fun (x : (Int × Int)) => strconv_FormatUint_b x.1 x.2

/-! account_User: passkey/account.User -/
noncomputable def account_User_P : Pt := (.cons (.int .u64) .str)
noncomputable def account_User_H : List Po := []
noncomputable def account_User_R : Pt := .str
noncomputable def account_User_G : List Po := []
noncomputable def account_User_V (f : Int → ByteArray → Option ByteArray) (x : (Int × ByteArray)) : Option ByteArray := f x.1 x.2
noncomputable def account_User_C : Cal := tbl [(15, (ent digest_Mac_P digest_Mac_H digest_Mac_R digest_Mac_G (digest_Mac_V (digest_Mac)))), (14, (ent strconv_FormatUint_P strconv_FormatUint_H strconv_FormatUint_R strconv_FormatUint_G (strconv_FormatUint_V (strconv_FormatUint)))), (16, (ent strings_Repeat_P strings_Repeat_H strings_Repeat_R strings_Repeat_G strings_Repeat_W))]
theorem account_User_Cok : CalOK Tryd.prog account_User_C ∧ CalNt account_User_C := by
  unfold account_User_C
  exact tbl_ok (by
    intro p hp
    simp only [List.mem_cons, List.not_mem_nil, or_false] at hp
    rcases hp with rfl | rfl | rfl
    · exact digest_Mac_ok
    · exact strconv_FormatUint_ok
    · exact strings_Repeat_ok)
noncomputable def account_User_FH : FH := { ops := [(1, [(3, .borrow)])] }
theorem account_User_b (a1 : Int) (a2 : ByteArray) : bodyC Tryd.prog account_User_C account_User_FH [] [] { keep := [] } 5 account_User_P account_User_H account_User_R account_User_G (a1, a2) _ some = account_User a1 a2 := by kernel_rfl
theorem account_User_ok : EntOK Tryd.prog 5 (ent account_User_P account_User_H account_User_R account_User_G (account_User_V (account_User))) :=
  ent_ok account_User_FH account_User_Cok (hp := account_User_H) (fn := Tryd.f5) (by kernel_rfl) (ToldC.nil 0) fun (x : (Int × ByteArray)) => account_User_b x.1 x.2

/-! ref29_User: passkey/passkeyref29.User -/
noncomputable def ref29_User_l4p : SP := { n := 29, ix := [5, 6, 7], p := (.cons (.int .u64) (.cons .str (.int .i64))) }
noncomputable def ref29_User_l4x : List (Ex × SP) := [((.exit 0), { n := 29, ix := [6], p := .str })]
noncomputable def ref29_User_P : Pt := (.cons (.int .u64) .str)
noncomputable def ref29_User_H : List Po := []
noncomputable def ref29_User_R : Pt := .str
noncomputable def ref29_User_G : List Po := []
noncomputable def ref29_User_V (f : Int → ByteArray → Option ByteArray) (x : (Int × ByteArray)) : Option ByteArray := f x.1 x.2
noncomputable def ref29_User_C : Cal := tbl [(17, (ent ref1_Mac_P ref1_Mac_H ref1_Mac_R ref1_Mac_G (ref1_Mac_V (ref1_Mac))))]
theorem ref29_User_Cok : CalOK Tryd.prog ref29_User_C ∧ CalNt ref29_User_C := by
  unfold ref29_User_C
  exact tbl_ok (by
    intro p hp
    simp only [List.mem_cons, List.not_mem_nil, or_false] at hp
    rcases hp with rfl
    exact ref1_Mac_ok)
noncomputable def ref29_User_FH : FH := { loops := [(4, { keep := [5, 6, 7] }, { keep := [4, 6] })], ops := [(1, [(3, .borrow)])] }
theorem ref29_User_l4_s (a1 : Int) (a2 : ByteArray) (a3 : Int) : stepC Tryd.prog ref29_User_C ref29_User_FH [] [] 0 ((loopsAt 4 (codeOf Tryd.f6)).headD .skip) ref29_User_l4p ref29_User_l4x { keep := [5, 6, 7] } { keep := [4, 6] } (a1, a2, a3) _ some = ref29_User_l4 (a1, a2, a3) := by kernel_rfl
theorem ref29_User_l4_t : ToldC Tryd.prog 0 (codeOf Tryd.f6) ((4, toldL ref29_User_l4p ref29_User_l4x ref29_User_l4) :: []) [] :=
  ToldC.loop ref29_User_FH 0 (ToldC.nil 0) ref29_User_Cok 4 ((loopsAt 4 (codeOf Tryd.f6)).headD .skip) (by kernel_rfl) (p := ref29_User_l4p) (px := ref29_User_l4x) (g := ref29_User_l4) (hi := { keep := [5, 6, 7] }) (ho := { keep := [4, 6] }) (by kernel_rfl) fun (x : (Int × ByteArray × Int)) => ref29_User_l4_s x.1 x.2.1 x.2.2
theorem ref29_User_b (a1 : Int) (a2 : ByteArray) : bodyC Tryd.prog ref29_User_C ref29_User_FH ((4, toldL ref29_User_l4p ref29_User_l4x ref29_User_l4) :: []) [] { keep := [] } 6 ref29_User_P ref29_User_H ref29_User_R ref29_User_G (a1, a2) _ some = ref29_User a1 a2 := by kernel_rfl
theorem ref29_User_ok : EntOK Tryd.prog 6 (ent ref29_User_P ref29_User_H ref29_User_R ref29_User_G (ref29_User_V (ref29_User))) :=
  ent_ok ref29_User_FH ref29_User_Cok (hp := ref29_User_H) (fn := Tryd.f6) (by kernel_rfl) ref29_User_l4_t fun (x : (Int × ByteArray)) => ref29_User_b x.1 x.2

/-! ref29_FindAccount: passkey/passkeyref29.FindAccount -/
noncomputable def ref29_FindAccount_l2p : SP := { n := 21, ix := [0, 1, 6], p := (.cons (.sl 3) (.cons .str (.int .i64))) }
noncomputable def ref29_FindAccount_l2x : List (Ex × SP) := [(.ret, { n := 21, ix := [4, 5], p := (.cons (.int .i64) .bool) }), ((.exit 0), { n := 21, ix := [], p := .nil })]
noncomputable def ref29_FindAccount_P : Pt := (.cons (.sl 3) .str)
noncomputable def ref29_FindAccount_H : List Po := []
noncomputable def ref29_FindAccount_R : Pt := (.tup (.cons (.int .i64) .bool))
noncomputable def ref29_FindAccount_G : List Po := []
noncomputable def ref29_FindAccount_V (f : (List PD) → ByteArray → Option (Int × Bool)) (x : (List PD × ByteArray)) : Option (Int × Bool) := f x.1 x.2
noncomputable def ref29_FindAccount_C : Cal := tbl []
theorem ref29_FindAccount_Cok : CalOK Tryd.prog ref29_FindAccount_C ∧ CalNt ref29_FindAccount_C := by
  unfold ref29_FindAccount_C
  exact tbl_ok (by intro p hp; simp at hp)
noncomputable def ref29_FindAccount_FH : FH := { loops := [(2, { keep := [0, 1, 6] }, { keep := [4, 5] })] }
theorem ref29_FindAccount_l2_s (a1 : List PD) (a2 : ByteArray) (a3 : Int) : stepC Tryd.prog ref29_FindAccount_C ref29_FindAccount_FH [] [] 0 ((loopsAt 2 (codeOf Tryd.f22)).headD .skip) ref29_FindAccount_l2p ref29_FindAccount_l2x { keep := [0, 1, 6] } { keep := [4, 5] } (a1, a2, a3) _ some = ref29_FindAccount_l2 (a1, a2, a3) := by kernel_rfl
theorem ref29_FindAccount_l2_t : ToldC Tryd.prog 0 (codeOf Tryd.f22) ((2, toldL ref29_FindAccount_l2p ref29_FindAccount_l2x ref29_FindAccount_l2) :: []) [] :=
  ToldC.loop ref29_FindAccount_FH 0 (ToldC.nil 0) ref29_FindAccount_Cok 2 ((loopsAt 2 (codeOf Tryd.f22)).headD .skip) (by kernel_rfl) (p := ref29_FindAccount_l2p) (px := ref29_FindAccount_l2x) (g := ref29_FindAccount_l2) (hi := { keep := [0, 1, 6] }) (ho := { keep := [4, 5] }) (by kernel_rfl) fun (x : (List PD × ByteArray × Int)) => ref29_FindAccount_l2_s x.1 x.2.1 x.2.2
theorem ref29_FindAccount_b (a1 : List PD) (a2 : ByteArray) : bodyC Tryd.prog ref29_FindAccount_C ref29_FindAccount_FH ((2, toldL ref29_FindAccount_l2p ref29_FindAccount_l2x ref29_FindAccount_l2) :: []) [] { keep := [] } 22 ref29_FindAccount_P ref29_FindAccount_H ref29_FindAccount_R ref29_FindAccount_G (a1, a2) _ some = ref29_FindAccount a1 a2 := by kernel_rfl
theorem ref29_FindAccount_ok : EntOK Tryd.prog 22 (ent ref29_FindAccount_P ref29_FindAccount_H ref29_FindAccount_R ref29_FindAccount_G (ref29_FindAccount_V (ref29_FindAccount))) :=
  ent_ok ref29_FindAccount_FH ref29_FindAccount_Cok (hp := ref29_FindAccount_H) (fn := Tryd.f22) (by kernel_rfl) ref29_FindAccount_l2_t fun (x : (List PD × ByteArray)) => ref29_FindAccount_b x.1 x.2

/-! ref29_insert: passkey/passkeyref29.insert -/
noncomputable def ref29_insert_l2p : SP := { n := 33, ix := [0, 1, 5], p := (.cons (.sl 1) (.cons .str (.int .i64))) }
noncomputable def ref29_insert_l2x : List (Ex × SP) := [((.exit 0), { n := 33, ix := [0, 1, 5], p := (.cons (.sl 1) (.cons .str (.int .i64))) })]
noncomputable def ref29_insert_P : Pt := (.cons (.sl 1) .str)
noncomputable def ref29_insert_H : List Po := []
noncomputable def ref29_insert_R : Pt := (.ref 0)
noncomputable def ref29_insert_G : List Po := [(.arrS 1 9 1)]
noncomputable def ref29_insert_V (f : (List PD) → ByteArray → Option (Unit × List PD)) (x : (List PD × ByteArray)) : Option (Unit × List PD) := f x.1 x.2
noncomputable def ref29_insert_C : Cal := tbl []
theorem ref29_insert_Cok : CalOK Tryd.prog ref29_insert_C ∧ CalNt ref29_insert_C := by
  unfold ref29_insert_C
  exact tbl_ok (by intro p hp; simp at hp)
noncomputable def ref29_insert_FH : FH := { loops := [(2, { keep := [0, 1, 5] }, { keep := [0, 1, 4, 5] })] }
theorem ref29_insert_l2_s (a1 : List PD) (a2 : ByteArray) (a3 : Int) : stepC Tryd.prog ref29_insert_C ref29_insert_FH [] [] 0 ((loopsAt 2 (codeOf Tryd.f23)).headD .skip) ref29_insert_l2p ref29_insert_l2x { keep := [0, 1, 5] } { keep := [0, 1, 4, 5] } (a1, a2, a3) _ some = ref29_insert_l2 (a1, a2, a3) := by kernel_rfl
theorem ref29_insert_l2_t : ToldC Tryd.prog 0 (codeOf Tryd.f23) ((2, toldL ref29_insert_l2p ref29_insert_l2x ref29_insert_l2) :: []) [] :=
  ToldC.loop ref29_insert_FH 0 (ToldC.nil 0) ref29_insert_Cok 2 ((loopsAt 2 (codeOf Tryd.f23)).headD .skip) (by kernel_rfl) (p := ref29_insert_l2p) (px := ref29_insert_l2x) (g := ref29_insert_l2) (hi := { keep := [0, 1, 5] }) (ho := { keep := [0, 1, 4, 5] }) (by kernel_rfl) fun (x : (List PD × ByteArray × Int)) => ref29_insert_l2_s x.1 x.2.1 x.2.2
theorem ref29_insert_b (a1 : List PD) (a2 : ByteArray) : bodyC Tryd.prog ref29_insert_C ref29_insert_FH ((2, toldL ref29_insert_l2p ref29_insert_l2x ref29_insert_l2) :: []) [] { keep := [] } 23 ref29_insert_P ref29_insert_H ref29_insert_R ref29_insert_G (a1, a2) _ some = ref29_insert a1 a2 := by kernel_rfl
theorem ref29_insert_ok : EntOK Tryd.prog 23 (ent ref29_insert_P ref29_insert_H ref29_insert_R ref29_insert_G (ref29_insert_V (ref29_insert))) :=
  ent_ok ref29_insert_FH ref29_insert_Cok (hp := ref29_insert_H) (fn := Tryd.f23) (by kernel_rfl) ref29_insert_l2_t fun (x : (List PD × ByteArray)) => ref29_insert_b x.1 x.2

/-! ref29_Allowed: passkey/passkeyref29.Allowed -/
noncomputable def ref29_Allowed_j9p : SP := { n := 84, ix := [0, 1, 2, 7, 8, 10, 11], p := (.cons (.sl 3) (.cons (.int .u64) (.cons .str (.cons (.ref 0) (.cons (.int .i64) (.cons (.int .i64) (.ptr 1 0))))))), hp := [(.arrS 1 9 1), (.cells (.cons (.nums .u8) (.cons (.int .i64) (.cons (.int .u64) (.cons (.int .u64) (.cons (.int .i64) (.cons .bool (.cons (.int .u64) (.cons (.sl 2) (.cons .bool (.cons (.int .i64) (.int .i64))))))))))))] }
noncomputable def ref29_Allowed_j9x : List (Ex × SP) := [(.norm, { n := 84, ix := [0, 1, 2, 7, 8, 10], p := (.cons (.sl 3) (.cons (.int .u64) (.cons .str (.cons (.ref 0) (.cons (.int .i64) (.int .i64)))))), hp := [(.arrS 1 9 1)] })]
noncomputable def ref29_Allowed_l5p : SP := { n := 84, ix := [0, 1, 2, 7, 8, 10], p := (.cons (.sl 3) (.cons (.int .u64) (.cons .str (.cons (.ref 0) (.cons (.int .i64) (.int .i64)))))), hp := [(.arrS 1 9 1)] }
noncomputable def ref29_Allowed_l5x : List (Ex × SP) := [((.exit 0), { n := 84, ix := [1, 2, 7], p := (.cons (.int .u64) (.cons .str (.ref 0))), hp := [(.arrS 1 9 1)] })]
noncomputable def ref29_Allowed_l12p : SP := { n := 84, ix := [7, 12, 13], p := (.cons (.ref 0) (.cons (.int .u64) (.int .u64))), hp := [(.arrS 1 9 1)] }
noncomputable def ref29_Allowed_l12x : List (Ex × SP) := [((.exit 2), { n := 84, ix := [7], p := (.ref 0), hp := [(.arrS 1 9 1)] })]
noncomputable def ref29_Allowed_l17p : SP := { n := 84, ix := [7, 14, 15], p := (.cons (.ref 0) (.cons (.ref 1) (.int .i64))), hp := [(.arrS 1 9 1), (.arrS 1 29 1)] }
noncomputable def ref29_Allowed_l17x : List (Ex × SP) := [((.exit 4), { n := 84, ix := [14], p := (.ref 0), hp := [(.arrS 1 29 1)] })]
noncomputable def ref29_Allowed_j10p : SP := { n := 84, ix := [1, 2, 7], p := (.cons (.int .u64) (.cons .str (.ref 0))), hp := [(.arrS 1 9 1)] }
noncomputable def ref29_Allowed_j10x : List (Ex × SP) := [(.ret, { n := 84, ix := [6], p := (.ref 0), hp := [(.arrS 1 29 1)] })]
noncomputable def ref29_Allowed_P : Pt := (.cons (.sl 3) (.cons (.int .u64) .str))
noncomputable def ref29_Allowed_H : List Po := []
noncomputable def ref29_Allowed_R : Pt := (.ref 0)
noncomputable def ref29_Allowed_G : List Po := [(.arrS 1 29 1)]
noncomputable def ref29_Allowed_V (f : (List PD) → Int → ByteArray → Option (Unit × List PD)) (x : (List PD × Int × ByteArray)) : Option (Unit × List PD) := f x.1 x.2.1 x.2.2
noncomputable def ref29_Allowed_C : Cal := tbl [(22, (ent ref29_FindAccount_P ref29_FindAccount_H ref29_FindAccount_R ref29_FindAccount_G (ref29_FindAccount_V (ref29_FindAccount)))), (23, (ent ref29_insert_P ref29_insert_H ref29_insert_R ref29_insert_G (ref29_insert_V (ref29_insert)))), (17, (ent ref1_Mac_P ref1_Mac_H ref1_Mac_R ref1_Mac_G (ref1_Mac_V (ref1_Mac)))), (24, (ent ref3_Stream_P ref3_Stream_H ref3_Stream_R ref3_Stream_G (ref3_Stream_V (ref3_Stream))))]
theorem ref29_Allowed_Cok : CalOK Tryd.prog ref29_Allowed_C ∧ CalNt ref29_Allowed_C := by
  unfold ref29_Allowed_C
  exact tbl_ok (by
    intro p hp
    simp only [List.mem_cons, List.not_mem_nil, or_false] at hp
    rcases hp with rfl | rfl | rfl | rfl
    · exact ref29_FindAccount_ok
    · exact ref29_insert_ok
    · exact ref1_Mac_ok
    · exact ref3_Stream_ok)
noncomputable def ref29_Allowed_FH : FH := { join := [(9, { keep := [0, 1, 2, 7, 8, 10, 11] }), (10, { keep := [1, 2, 7], own := [(7, 9)] })], loops := [(5, { keep := [0, 1, 2, 7, 8, 10], own := [(7, 9)] }, { keep := [1, 2, 6, 7] }), (12, { keep := [7, 12, 13] }, { keep := [6, 7] }), (17, { keep := [7, 14, 15], own := [(14, 29)] }, { keep := [6, 14] })], ops := [(10, [(3, .borrow)])] }
theorem ref29_Allowed_j9_s (a1 : List PD) (a2 : Int) (a3 : ByteArray) (a4 : Int) (a5 : Int) (a6 : List PD) (a7 : List Int) (a8 : Int) (a9 : Int) (a10 : Int) (a11 : Int) (a12 : Bool) (a13 : Int) (a14 : List PD) (a15 : Bool) (a16 : Int) (a17 : Int) : joinC Tryd.prog ref29_Allowed_C ref29_Allowed_FH [] [] 0 ((joinsAt 9 (codeOf Tryd.f9)).headD .skip) ref29_Allowed_j9p ref29_Allowed_j9x { keep := [0, 1, 2, 6, 7, 8, 10] } ((a1, a2, a3, (), a4, a5, ()), (a6, (a7, a8, a9, a10, a11, a12, a13, a14, a15, a16, a17))) _ some = ref29_Allowed_j9 ((a1, a2, a3, (), a4, a5, ()), (a6, (a7, a8, a9, a10, a11, a12, a13, a14, a15, a16, a17))) := by kernel_rfl
theorem ref29_Allowed_j9_t : ToldC Tryd.prog 0 (codeOf Tryd.f9) [] ((9, toldJ ref29_Allowed_j9p ref29_Allowed_j9x ref29_Allowed_j9) :: []) :=
  ToldC.join ref29_Allowed_FH 0 (ToldC.nil 0) ref29_Allowed_Cok 9 ((joinsAt 9 (codeOf Tryd.f9)).headD .skip) (by kernel_rfl) (p := ref29_Allowed_j9p) (px := ref29_Allowed_j9x) (g := ref29_Allowed_j9) (ho := { keep := [0, 1, 2, 6, 7, 8, 10] }) fun (x : ((List PD × Int × ByteArray × Unit × Int × Int × Unit) × (List PD × (List Int × Int × Int × Int × Int × Bool × Int × List PD × Bool × Int × Int)))) => ref29_Allowed_j9_s x.1.1 x.1.2.1 x.1.2.2.1 x.1.2.2.2.2.1 x.1.2.2.2.2.2.1 x.2.1 x.2.2.1 x.2.2.2.1 x.2.2.2.2.1 x.2.2.2.2.2.1 x.2.2.2.2.2.2.1 x.2.2.2.2.2.2.2.1 x.2.2.2.2.2.2.2.2.1 x.2.2.2.2.2.2.2.2.2.1 x.2.2.2.2.2.2.2.2.2.2.1 x.2.2.2.2.2.2.2.2.2.2.2.1 x.2.2.2.2.2.2.2.2.2.2.2.2
theorem ref29_Allowed_l5_s (a1 : List PD) (a2 : Int) (a3 : ByteArray) (a4 : Int) (a5 : Int) (a6 : List PD) : stepC Tryd.prog ref29_Allowed_C ref29_Allowed_FH [] ((9, toldJ ref29_Allowed_j9p ref29_Allowed_j9x ref29_Allowed_j9) :: []) 0 ((loopsAt 5 (codeOf Tryd.f9)).headD .skip) ref29_Allowed_l5p ref29_Allowed_l5x { keep := [0, 1, 2, 7, 8, 10], own := [(7, 9)] } { keep := [1, 2, 6, 7] } ((a1, a2, a3, (), a4, a5), a6) _ some = ref29_Allowed_l5 ((a1, a2, a3, (), a4, a5), a6) := by kernel_rfl
theorem ref29_Allowed_l5_t : ToldC Tryd.prog 0 (codeOf Tryd.f9) ((5, toldL ref29_Allowed_l5p ref29_Allowed_l5x ref29_Allowed_l5) :: []) ((9, toldJ ref29_Allowed_j9p ref29_Allowed_j9x ref29_Allowed_j9) :: []) :=
  ToldC.loop ref29_Allowed_FH 0 ref29_Allowed_j9_t ref29_Allowed_Cok 5 ((loopsAt 5 (codeOf Tryd.f9)).headD .skip) (by kernel_rfl) (p := ref29_Allowed_l5p) (px := ref29_Allowed_l5x) (g := ref29_Allowed_l5) (hi := { keep := [0, 1, 2, 7, 8, 10], own := [(7, 9)] }) (ho := { keep := [1, 2, 6, 7] }) (by kernel_rfl) fun (x : ((List PD × Int × ByteArray × Unit × Int × Int) × List PD)) => ref29_Allowed_l5_s x.1.1 x.1.2.1 x.1.2.2.1 x.1.2.2.2.2.1 x.1.2.2.2.2.2 x.2
theorem ref29_Allowed_l12_s (a1 : Int) (a2 : Int) (a3 : List PD) : stepC Tryd.prog ref29_Allowed_C ref29_Allowed_FH ((5, toldL ref29_Allowed_l5p ref29_Allowed_l5x ref29_Allowed_l5) :: []) ((9, toldJ ref29_Allowed_j9p ref29_Allowed_j9x ref29_Allowed_j9) :: []) 0 ((loopsAt 12 (codeOf Tryd.f9)).headD .skip) ref29_Allowed_l12p ref29_Allowed_l12x { keep := [7, 12, 13] } { keep := [6, 7] } (((), a1, a2), a3) _ some = ref29_Allowed_l12 (((), a1, a2), a3) := by kernel_rfl
theorem ref29_Allowed_l12_t : ToldC Tryd.prog 0 (codeOf Tryd.f9) ((12, toldL ref29_Allowed_l12p ref29_Allowed_l12x ref29_Allowed_l12) :: ((5, toldL ref29_Allowed_l5p ref29_Allowed_l5x ref29_Allowed_l5) :: [])) ((9, toldJ ref29_Allowed_j9p ref29_Allowed_j9x ref29_Allowed_j9) :: []) :=
  ToldC.loop ref29_Allowed_FH 0 ref29_Allowed_l5_t ref29_Allowed_Cok 12 ((loopsAt 12 (codeOf Tryd.f9)).headD .skip) (by kernel_rfl) (p := ref29_Allowed_l12p) (px := ref29_Allowed_l12x) (g := ref29_Allowed_l12) (hi := { keep := [7, 12, 13] }) (ho := { keep := [6, 7] }) (by kernel_rfl) fun (x : ((Unit × Int × Int) × List PD)) => ref29_Allowed_l12_s x.1.2.1 x.1.2.2 x.2
theorem ref29_Allowed_l17_s (a1 : Int) (a2 : List PD) (a3 : List PD) : stepC Tryd.prog ref29_Allowed_C ref29_Allowed_FH ((12, toldL ref29_Allowed_l12p ref29_Allowed_l12x ref29_Allowed_l12) :: ((5, toldL ref29_Allowed_l5p ref29_Allowed_l5x ref29_Allowed_l5) :: [])) ((9, toldJ ref29_Allowed_j9p ref29_Allowed_j9x ref29_Allowed_j9) :: []) 0 ((loopsAt 17 (codeOf Tryd.f9)).headD .skip) ref29_Allowed_l17p ref29_Allowed_l17x { keep := [7, 14, 15], own := [(14, 29)] } { keep := [6, 14] } (((), (), a1), (a2, a3)) _ some = ref29_Allowed_l17 (((), (), a1), (a2, a3)) := by kernel_rfl
theorem ref29_Allowed_l17_t : ToldC Tryd.prog 0 (codeOf Tryd.f9) ((17, toldL ref29_Allowed_l17p ref29_Allowed_l17x ref29_Allowed_l17) :: ((12, toldL ref29_Allowed_l12p ref29_Allowed_l12x ref29_Allowed_l12) :: ((5, toldL ref29_Allowed_l5p ref29_Allowed_l5x ref29_Allowed_l5) :: []))) ((9, toldJ ref29_Allowed_j9p ref29_Allowed_j9x ref29_Allowed_j9) :: []) :=
  ToldC.loop ref29_Allowed_FH 0 ref29_Allowed_l12_t ref29_Allowed_Cok 17 ((loopsAt 17 (codeOf Tryd.f9)).headD .skip) (by kernel_rfl) (p := ref29_Allowed_l17p) (px := ref29_Allowed_l17x) (g := ref29_Allowed_l17) (hi := { keep := [7, 14, 15], own := [(14, 29)] }) (ho := { keep := [6, 14] }) (by kernel_rfl) fun (x : ((Unit × Unit × Int) × (List PD × List PD))) => ref29_Allowed_l17_s x.1.2.2 x.2.1 x.2.2
theorem ref29_Allowed_j10_s (a1 : Int) (a2 : ByteArray) (a3 : List PD) : joinC Tryd.prog ref29_Allowed_C ref29_Allowed_FH ((17, toldL ref29_Allowed_l17p ref29_Allowed_l17x ref29_Allowed_l17) :: ((12, toldL ref29_Allowed_l12p ref29_Allowed_l12x ref29_Allowed_l12) :: ((5, toldL ref29_Allowed_l5p ref29_Allowed_l5x ref29_Allowed_l5) :: []))) ((9, toldJ ref29_Allowed_j9p ref29_Allowed_j9x ref29_Allowed_j9) :: []) 0 ((joinsAt 10 (codeOf Tryd.f9)).headD .skip) ref29_Allowed_j10p ref29_Allowed_j10x { keep := [6] } ((a1, a2, ()), a3) _ some = ref29_Allowed_j10 ((a1, a2, ()), a3) := by kernel_rfl
theorem ref29_Allowed_j10_t : ToldC Tryd.prog 0 (codeOf Tryd.f9) ((17, toldL ref29_Allowed_l17p ref29_Allowed_l17x ref29_Allowed_l17) :: ((12, toldL ref29_Allowed_l12p ref29_Allowed_l12x ref29_Allowed_l12) :: ((5, toldL ref29_Allowed_l5p ref29_Allowed_l5x ref29_Allowed_l5) :: []))) ((10, toldJ ref29_Allowed_j10p ref29_Allowed_j10x ref29_Allowed_j10) :: ((9, toldJ ref29_Allowed_j9p ref29_Allowed_j9x ref29_Allowed_j9) :: [])) :=
  ToldC.join ref29_Allowed_FH 0 ref29_Allowed_l17_t ref29_Allowed_Cok 10 ((joinsAt 10 (codeOf Tryd.f9)).headD .skip) (by kernel_rfl) (p := ref29_Allowed_j10p) (px := ref29_Allowed_j10x) (g := ref29_Allowed_j10) (ho := { keep := [6] }) fun (x : ((Int × ByteArray × Unit) × List PD)) => ref29_Allowed_j10_s x.1.1 x.1.2.1 x.2
theorem ref29_Allowed_b (a1 : List PD) (a2 : Int) (a3 : ByteArray) : bodyC Tryd.prog ref29_Allowed_C ref29_Allowed_FH ((17, toldL ref29_Allowed_l17p ref29_Allowed_l17x ref29_Allowed_l17) :: ((12, toldL ref29_Allowed_l12p ref29_Allowed_l12x ref29_Allowed_l12) :: ((5, toldL ref29_Allowed_l5p ref29_Allowed_l5x ref29_Allowed_l5) :: []))) ((10, toldJ ref29_Allowed_j10p ref29_Allowed_j10x ref29_Allowed_j10) :: ((9, toldJ ref29_Allowed_j9p ref29_Allowed_j9x ref29_Allowed_j9) :: [])) { keep := [] } 9 ref29_Allowed_P ref29_Allowed_H ref29_Allowed_R ref29_Allowed_G (a1, a2, a3) _ some = ref29_Allowed a1 a2 a3 := by kernel_rfl
theorem ref29_Allowed_ok : EntOK Tryd.prog 9 (ent ref29_Allowed_P ref29_Allowed_H ref29_Allowed_R ref29_Allowed_G (ref29_Allowed_V (ref29_Allowed))) :=
  ent_ok ref29_Allowed_FH ref29_Allowed_Cok (hp := ref29_Allowed_H) (fn := Tryd.f9) (by kernel_rfl) ref29_Allowed_j10_t fun (x : (List PD × Int × ByteArray)) => ref29_Allowed_b x.1 x.2.1 x.2.2

/-! ref29_SameList: passkey/passkeyref29.SameList -/
noncomputable def ref29_SameList_l4p : SP := { n := 28, ix := [0, 1, 5], p := (.cons (.sl 1) (.cons (.sl 1) (.int .i64))) }
noncomputable def ref29_SameList_l4x : List (Ex × SP) := [(.ret, { n := 28, ix := [4], p := .bool }), ((.exit 0), { n := 28, ix := [], p := .nil })]
noncomputable def ref29_SameList_P : Pt := (.cons (.sl 1) (.sl 1))
noncomputable def ref29_SameList_H : List Po := []
noncomputable def ref29_SameList_R : Pt := .bool
noncomputable def ref29_SameList_G : List Po := []
noncomputable def ref29_SameList_V (f : (List PD) → (List PD) → Option Bool) (x : (List PD × List PD)) : Option Bool := f x.1 x.2
noncomputable def ref29_SameList_C : Cal := tbl []
theorem ref29_SameList_Cok : CalOK Tryd.prog ref29_SameList_C ∧ CalNt ref29_SameList_C := by
  unfold ref29_SameList_C
  exact tbl_ok (by intro p hp; simp at hp)
noncomputable def ref29_SameList_FH : FH := { loops := [(4, { keep := [0, 1, 5] }, { keep := [4] })] }
theorem ref29_SameList_l4_s (a1 : List PD) (a2 : List PD) (a3 : Int) : stepC Tryd.prog ref29_SameList_C ref29_SameList_FH [] [] 0 ((loopsAt 4 (codeOf Tryd.f7)).headD .skip) ref29_SameList_l4p ref29_SameList_l4x { keep := [0, 1, 5] } { keep := [4] } (a1, a2, a3) _ some = ref29_SameList_l4 (a1, a2, a3) := by kernel_rfl
theorem ref29_SameList_l4_t : ToldC Tryd.prog 0 (codeOf Tryd.f7) ((4, toldL ref29_SameList_l4p ref29_SameList_l4x ref29_SameList_l4) :: []) [] :=
  ToldC.loop ref29_SameList_FH 0 (ToldC.nil 0) ref29_SameList_Cok 4 ((loopsAt 4 (codeOf Tryd.f7)).headD .skip) (by kernel_rfl) (p := ref29_SameList_l4p) (px := ref29_SameList_l4x) (g := ref29_SameList_l4) (hi := { keep := [0, 1, 5] }) (ho := { keep := [4] }) (by kernel_rfl) fun (x : (List PD × List PD × Int)) => ref29_SameList_l4_s x.1 x.2.1 x.2.2
theorem ref29_SameList_b (a1 : List PD) (a2 : List PD) : bodyC Tryd.prog ref29_SameList_C ref29_SameList_FH ((4, toldL ref29_SameList_l4p ref29_SameList_l4x ref29_SameList_l4) :: []) [] { keep := [] } 7 ref29_SameList_P ref29_SameList_H ref29_SameList_R ref29_SameList_G (a1, a2) _ some = ref29_SameList a1 a2 := by kernel_rfl
theorem ref29_SameList_ok : EntOK Tryd.prog 7 (ent ref29_SameList_P ref29_SameList_H ref29_SameList_R ref29_SameList_G (ref29_SameList_V (ref29_SameList))) :=
  ent_ok ref29_SameList_FH ref29_SameList_Cok (hp := ref29_SameList_H) (fn := Tryd.f7) (by kernel_rfl) ref29_SameList_l4_t fun (x : (List PD × List PD)) => ref29_SameList_b x.1 x.2

/-! law30_AccountNames: passkey/passkeylaw30.AccountNames -/
noncomputable def law30_AccountNames_P : Pt := (.cons (.int .u64) .str)
noncomputable def law30_AccountNames_H : List Po := []
noncomputable def law30_AccountNames_R : Pt := .bool
noncomputable def law30_AccountNames_G : List Po := []
noncomputable def law30_AccountNames_V (f : Int → ByteArray → Option Bool) (x : (Int × ByteArray)) : Option Bool := f x.1 x.2
noncomputable def law30_AccountNames_C : Cal := tbl [(4, (ent law30_awake_P law30_awake_H law30_awake_R law30_awake_G (law30_awake_V (law30_awake)))), (5, (ent account_User_P account_User_H account_User_R account_User_G (account_User_V (account_User)))), (6, (ent ref29_User_P ref29_User_H ref29_User_R ref29_User_G (ref29_User_V (ref29_User)))), (8, (ent account_Allowed_P account_Allowed_H account_Allowed_R account_Allowed_G (account_Allowed_V (account_Allowed)))), (9, (ent ref29_Allowed_P ref29_Allowed_H ref29_Allowed_R ref29_Allowed_G (ref29_Allowed_V (ref29_Allowed)))), (7, (ent ref29_SameList_P ref29_SameList_H ref29_SameList_R ref29_SameList_G (ref29_SameList_V (ref29_SameList))))]
theorem law30_AccountNames_Cok : CalOK Tryd.prog law30_AccountNames_C ∧ CalNt law30_AccountNames_C := by
  unfold law30_AccountNames_C
  exact tbl_ok (by
    intro p hp
    simp only [List.mem_cons, List.not_mem_nil, or_false] at hp
    rcases hp with rfl | rfl | rfl | rfl | rfl | rfl
    · exact law30_awake_ok
    · exact account_User_ok
    · exact ref29_User_ok
    · exact account_Allowed_ok
    · exact ref29_Allowed_ok
    · exact ref29_SameList_ok)
noncomputable def law30_AccountNames_FH : FH := { ops := [(4, [(17, .borrow)])] }
theorem law30_AccountNames_b (a1 : Int) (a2 : ByteArray) : bodyC Tryd.prog law30_AccountNames_C law30_AccountNames_FH [] [] { keep := [] } 3 law30_AccountNames_P law30_AccountNames_H law30_AccountNames_R law30_AccountNames_G (a1, a2) _ some = law30_AccountNames a1 a2 := by kernel_rfl
theorem law30_AccountNames_ok : EntOK Tryd.prog 3 (ent law30_AccountNames_P law30_AccountNames_H law30_AccountNames_R law30_AccountNames_G (law30_AccountNames_V (law30_AccountNames))) :=
  ent_ok law30_AccountNames_FH law30_AccountNames_Cok (hp := law30_AccountNames_H) (fn := Tryd.f3) (by kernel_rfl) (ToldC.nil 0) fun (x : (Int × ByteArray)) => law30_AccountNames_b x.1 x.2

end Go.Proofs.YthoooflagabpoaaDoor
