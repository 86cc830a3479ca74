/-
The functions of chapter 15 come to their values. Printed by a program.
-/
import Derived.Test.YtijjelcejpikiaaGreatDoorEvPe15a
set_option linter.unusedVariables false
namespace Go.Proofs.YtijjelcejpikiaaGreatDoor
open Go Go.Ev Go.Px
set_option maxRecDepth 100000
set_option maxHeartbeats 8000000

/-! ref1_round: passkey/passkeyref1.round -/
noncomputable def ref1_round_P : Pt := (.arr .u64 4)
noncomputable def ref1_round_H : List Po := []
noncomputable def ref1_round_R : Pt := (.arr .u64 4)
noncomputable def ref1_round_G : List Po := []
noncomputable def ref1_round_V (f : (List Int) → Option (List Int)) (x : List Int) : Option (List Int) := f x
noncomputable def ref1_round_C : Cal := tbl [(154, (ent ref1_rotl_P ref1_rotl_H ref1_rotl_R ref1_rotl_G (ref1_rotl_V (ref1_rotl))))]
theorem ref1_round_Cok : CalOK Tryz.prog ref1_round_C ∧ CalNt ref1_round_C := by
  unfold ref1_round_C
  exact tbl_ok (by
    intro p hp
    simp only [List.mem_cons, List.not_mem_nil, or_false] at hp
    rcases hp with rfl
    exact ref1_rotl_ok)
noncomputable def ref1_round_FH : FH := { see := [(2, [(0, [0]), (1, [0]), (2, []), (3, [0]), (4, [0])]), (5, [(0, [0]), (1, [0]), (2, []), (3, [0]), (4, [0])]), (7, [(0, [0]), (1, [0]), (2, []), (3, [0]), (4, [0])]), (9, [(0, [0]), (1, [0]), (2, []), (3, [0]), (4, [0])])] }
theorem ref1_round_b (a1 : List Int) : bodyC Tryz.prog ref1_round_C ref1_round_FH [] [] { keep := [] } 117 ref1_round_P ref1_round_H ref1_round_R ref1_round_G a1 _ some = ref1_round a1 := by kernel_rfl
theorem ref1_round_ok : EntOK Tryz.prog 117 (ent ref1_round_P ref1_round_H ref1_round_R ref1_round_G (ref1_round_V (ref1_round))) :=
  ent_ok ref1_round_FH ref1_round_Cok (hp := ref1_round_H) (fn := Tryz.f117) (by kernel_rfl) (ToldC.nil 0) fun (x : List Int) => ref1_round_b x

/-! ref1_Sum: passkey/passkeyref1.Sum -/
noncomputable def ref1_Sum_j14p : SP := { n := 86, ix := [2, 7, 8, 9, 10, 11], p := (.cons (.nums .u8) (.cons (.ptr 0 0) (.cons (.int .i64) (.cons (.int .u64) (.cons (.int .i64) (.int .u8)))))), hp := [(.ints .u64 4)] }
noncomputable def ref1_Sum_j14x : List (Ex × SP) := [(.norm, { n := 86, ix := [2, 7, 8, 9, 10], p := (.cons (.nums .u8) (.cons (.ptr 0 0) (.cons (.int .i64) (.cons (.int .u64) (.int .i64))))), hp := [(.ints .u64 4)] })]
noncomputable def ref1_Sum_l7p : SP := { n := 86, ix := [2, 7, 8, 9, 10], p := (.cons (.nums .u8) (.cons (.ptr 0 0) (.cons (.int .i64) (.cons (.int .u64) (.int .i64))))), hp := [(.ints .u64 4)] }
noncomputable def ref1_Sum_l7x : List (Ex × SP) := [((.exit 2), { n := 86, ix := [2, 7, 8, 9], p := (.cons (.nums .u8) (.cons (.ptr 0 0) (.cons (.int .i64) (.int .u64)))), hp := [(.ints .u64 4)] })]
noncomputable def ref1_Sum_l3p : SP := { n := 86, ix := [2, 7, 8], p := (.cons (.nums .u8) (.cons (.ptr 0 0) (.int .i64))), hp := [(.ints .u64 4)] }
noncomputable def ref1_Sum_l3x : List (Ex × SP) := [((.exit 0), { n := 86, ix := [7], p := (.ptr 0 0), hp := [(.ints .u64 4)] })]
noncomputable def ref1_Sum_P : Pt := (.cons (.int .u64) (.cons (.int .u64) (.nums .u8)))
noncomputable def ref1_Sum_H : List Po := []
noncomputable def ref1_Sum_R : Pt := (.int .u64)
noncomputable def ref1_Sum_G : List Po := []
noncomputable def ref1_Sum_V (f : Int → Int → (List Int) → Option Int) (x : (Int × Int × List Int)) : Option Int := f x.1 x.2.1 x.2.2
noncomputable def ref1_Sum_C : Cal := tbl [(117, (ent ref1_round_P ref1_round_H ref1_round_R ref1_round_G (ref1_round_V (ref1_round))))]
theorem ref1_Sum_Cok : CalOK Tryz.prog ref1_Sum_C ∧ CalNt ref1_Sum_C := by
  unfold ref1_Sum_C
  exact tbl_ok (by
    intro p hp
    simp only [List.mem_cons, List.not_mem_nil, or_false] at hp
    rcases hp with rfl
    exact ref1_round_ok)
noncomputable def ref1_Sum_FH : FH := { join := [(14, { keep := [2, 7, 8, 9, 10, 11] })], loops := [(7, { keep := [2, 7, 8, 9, 10] }, { keep := [2, 6, 7, 8, 9] }), (3, { keep := [2, 7, 8] }, { keep := [6, 7] })] }
theorem ref1_Sum_j14_s (a1 : List Int) (a2 : Int) (a3 : Int) (a4 : Int) (a5 : Int) (a6 : List Int) : joinC Tryz.prog ref1_Sum_C ref1_Sum_FH [] [] 0 ((joinsAt 14 (codeOf Tryz.f79)).headD .skip) ref1_Sum_j14p ref1_Sum_j14x { keep := [2, 6, 7, 8, 9, 10] } ((a1, (), a2, a3, a4, a5), a6) _ some = ref1_Sum_j14 ((a1, (), a2, a3, a4, a5), a6) := by kernel_rfl
theorem ref1_Sum_j14_t : ToldC Tryz.prog 0 (codeOf Tryz.f79) [] ((14, toldJ ref1_Sum_j14p ref1_Sum_j14x ref1_Sum_j14) :: []) :=
  ToldC.join ref1_Sum_FH 0 (ToldC.nil 0) ref1_Sum_Cok 14 ((joinsAt 14 (codeOf Tryz.f79)).headD .skip) (by kernel_rfl) (p := ref1_Sum_j14p) (px := ref1_Sum_j14x) (g := ref1_Sum_j14) (ho := { keep := [2, 6, 7, 8, 9, 10] }) fun (x : ((List Int × Unit × Int × Int × Int × Int) × List Int)) => ref1_Sum_j14_s x.1.1 x.1.2.2.1 x.1.2.2.2.1 x.1.2.2.2.2.1 x.1.2.2.2.2.2 x.2
theorem ref1_Sum_l7_s (a1 : List Int) (a2 : Int) (a3 : Int) (a4 : Int) (a5 : List Int) : stepC Tryz.prog ref1_Sum_C ref1_Sum_FH [] ((14, toldJ ref1_Sum_j14p ref1_Sum_j14x ref1_Sum_j14) :: []) 0 ((loopsAt 7 (codeOf Tryz.f79)).headD .skip) ref1_Sum_l7p ref1_Sum_l7x { keep := [2, 7, 8, 9, 10] } { keep := [2, 6, 7, 8, 9] } ((a1, (), a2, a3, a4), a5) _ some = ref1_Sum_l7 ((a1, (), a2, a3, a4), a5) := by kernel_rfl
theorem ref1_Sum_l7_t : ToldC Tryz.prog 0 (codeOf Tryz.f79) ((7, toldL ref1_Sum_l7p ref1_Sum_l7x ref1_Sum_l7) :: []) ((14, toldJ ref1_Sum_j14p ref1_Sum_j14x ref1_Sum_j14) :: []) :=
  ToldC.loop ref1_Sum_FH 0 ref1_Sum_j14_t ref1_Sum_Cok 7 ((loopsAt 7 (codeOf Tryz.f79)).headD .skip) (by kernel_rfl) (p := ref1_Sum_l7p) (px := ref1_Sum_l7x) (g := ref1_Sum_l7) (hi := { keep := [2, 7, 8, 9, 10] }) (ho := { keep := [2, 6, 7, 8, 9] }) (by kernel_rfl) fun (x : ((List Int × Unit × Int × Int × Int) × List Int)) => ref1_Sum_l7_s x.1.1 x.1.2.2.1 x.1.2.2.2.1 x.1.2.2.2.2 x.2
theorem ref1_Sum_l3_s (a1 : List Int) (a2 : Int) (a3 : List Int) : stepC Tryz.prog ref1_Sum_C ref1_Sum_FH ((7, toldL ref1_Sum_l7p ref1_Sum_l7x ref1_Sum_l7) :: []) ((14, toldJ ref1_Sum_j14p ref1_Sum_j14x ref1_Sum_j14) :: []) 0 ((loopsAt 3 (codeOf Tryz.f79)).headD .skip) ref1_Sum_l3p ref1_Sum_l3x { keep := [2, 7, 8] } { keep := [6, 7] } ((a1, (), a2), a3) _ some = ref1_Sum_l3 ((a1, (), a2), a3) := by kernel_rfl
theorem ref1_Sum_l3_t : ToldC Tryz.prog 0 (codeOf Tryz.f79) ((3, toldL ref1_Sum_l3p ref1_Sum_l3x ref1_Sum_l3) :: ((7, toldL ref1_Sum_l7p ref1_Sum_l7x ref1_Sum_l7) :: [])) ((14, toldJ ref1_Sum_j14p ref1_Sum_j14x ref1_Sum_j14) :: []) :=
  ToldC.loop ref1_Sum_FH 0 ref1_Sum_l7_t ref1_Sum_Cok 3 ((loopsAt 3 (codeOf Tryz.f79)).headD .skip) (by kernel_rfl) (p := ref1_Sum_l3p) (px := ref1_Sum_l3x) (g := ref1_Sum_l3) (hi := { keep := [2, 7, 8] }) (ho := { keep := [6, 7] }) (by kernel_rfl) fun (x : ((List Int × Unit × Int) × List Int)) => ref1_Sum_l3_s x.1.1 x.1.2.2 x.2
theorem ref1_Sum_b (a1 : Int) (a2 : Int) (a3 : List Int) : bodyC Tryz.prog ref1_Sum_C ref1_Sum_FH ((3, toldL ref1_Sum_l3p ref1_Sum_l3x ref1_Sum_l3) :: ((7, toldL ref1_Sum_l7p ref1_Sum_l7x ref1_Sum_l7) :: [])) ((14, toldJ ref1_Sum_j14p ref1_Sum_j14x ref1_Sum_j14) :: []) { keep := [] } 79 ref1_Sum_P ref1_Sum_H ref1_Sum_R ref1_Sum_G (a1, a2, a3) _ some = ref1_Sum a1 a2 a3 := by kernel_rfl
theorem ref1_Sum_ok : EntOK Tryz.prog 79 (ent ref1_Sum_P ref1_Sum_H ref1_Sum_R ref1_Sum_G (ref1_Sum_V (ref1_Sum))) :=
  ent_ok ref1_Sum_FH ref1_Sum_Cok (hp := ref1_Sum_H) (fn := Tryz.f79) (by kernel_rfl) ref1_Sum_l3_t fun (x : (Int × Int × List Int)) => ref1_Sum_b x.1 x.2.1 x.2.2

/-! ref1_Mac: passkey/passkeyref1.Mac -/
noncomputable def ref1_Mac_P : Pt := (.cons (.int .u64) (.cons (.int .i64) (.nums .u8)))
noncomputable def ref1_Mac_H : List Po := []
noncomputable def ref1_Mac_R : Pt := (.int .u64)
noncomputable def ref1_Mac_G : List Po := []
noncomputable def ref1_Mac_V (f : Int → Int → (List Int) → Option Int) (x : (Int × Int × List Int)) : Option Int := f x.1 x.2.1 x.2.2
noncomputable def ref1_Mac_C : Cal := tbl [(79, (ent ref1_Sum_P ref1_Sum_H ref1_Sum_R ref1_Sum_G (ref1_Sum_V (ref1_Sum))))]
theorem ref1_Mac_Cok : CalOK Tryz.prog ref1_Mac_C ∧ CalNt ref1_Mac_C := by
  unfold ref1_Mac_C
  exact tbl_ok (by
    intro p hp
    simp only [List.mem_cons, List.not_mem_nil, or_false] at hp
    rcases hp with rfl
    exact ref1_Sum_ok)
noncomputable def ref1_Mac_FH : FH := {}
theorem ref1_Mac_b (a1 : Int) (a2 : Int) (a3 : List Int) : bodyC Tryz.prog ref1_Mac_C ref1_Mac_FH [] [] { keep := [] } 53 ref1_Mac_P ref1_Mac_H ref1_Mac_R ref1_Mac_G (a1, a2, a3) _ some = ref1_Mac a1 a2 a3 := by kernel_rfl
theorem ref1_Mac_ok : EntOK Tryz.prog 53 (ent ref1_Mac_P ref1_Mac_H ref1_Mac_R ref1_Mac_G (ref1_Mac_V (ref1_Mac))) :=
  ent_ok ref1_Mac_FH ref1_Mac_Cok (hp := ref1_Mac_H) (fn := Tryz.f53) (by kernel_rfl) (ToldC.nil 0) fun (x : (Int × Int × List Int)) => ref1_Mac_b x.1 x.2.1 x.2.2

/-! ref1_Derive: passkey/passkeyref1.Derive -/
noncomputable def ref1_Derive_P : Pt := (.cons (.int .u64) (.cons .str (.int .i64)))
noncomputable def ref1_Derive_H : List Po := []
noncomputable def ref1_Derive_R : Pt := (.int .u64)
noncomputable def ref1_Derive_G : List Po := []
noncomputable def ref1_Derive_V (f : Int → ByteArray → Int → Option Int) (x : (Int × ByteArray × Int)) : Option Int := f x.1 x.2.1 x.2.2
noncomputable def ref1_Derive_C : Cal := tbl [(20, (ent ref1_Words_P ref1_Words_H ref1_Words_R ref1_Words_G (ref1_Words_V (ref1_Words)))), (53, (ent ref1_Mac_P ref1_Mac_H ref1_Mac_R ref1_Mac_G (ref1_Mac_V (ref1_Mac))))]
theorem ref1_Derive_Cok : CalOK Tryz.prog ref1_Derive_C ∧ CalNt ref1_Derive_C := by
  unfold ref1_Derive_C
  exact tbl_ok (by
    intro p hp
    simp only [List.mem_cons, List.not_mem_nil, or_false] at hp
    rcases hp with rfl | rfl
    · exact ref1_Words_ok
    · exact ref1_Mac_ok)
noncomputable def ref1_Derive_FH : FH := { ops := [(1, [(8, .borrow), (10, .borrow)])] }
theorem ref1_Derive_b (a1 : Int) (a2 : ByteArray) (a3 : Int) : bodyC Tryz.prog ref1_Derive_C ref1_Derive_FH [] [] { keep := [] } 18 ref1_Derive_P ref1_Derive_H ref1_Derive_R ref1_Derive_G (a1, a2, a3) _ some = ref1_Derive a1 a2 a3 := by kernel_rfl
theorem ref1_Derive_ok : EntOK Tryz.prog 18 (ent ref1_Derive_P ref1_Derive_H ref1_Derive_R ref1_Derive_G (ref1_Derive_V (ref1_Derive))) :=
  ent_ok ref1_Derive_FH ref1_Derive_Cok (hp := ref1_Derive_H) (fn := Tryz.f18) (by kernel_rfl) (ToldC.nil 0) fun (x : (Int × ByteArray × Int)) => ref1_Derive_b x.1 x.2.1 x.2.2

/-! ref3_Stream: passkey/passkeyref3.Stream -/
noncomputable def ref3_Stream_l4p : SP := { n := 32, ix := [0, 1, 2, 7, 8], p := (.cons (.int .u64) (.cons (.int .u64) (.cons (.int .i64) (.cons (.ref 0) (.int .i64))))), hp := [(.arrN 1 5 .u8)] }
noncomputable def ref3_Stream_l4x : List (Ex × SP) := [((.exit 0), { n := 32, ix := [2, 7], p := (.cons (.int .i64) (.ref 0)), hp := [(.arrN 1 5 .u8)] })]
noncomputable def ref3_Stream_P : Pt := (.cons (.int .u64) (.cons (.int .u64) (.int .i64)))
noncomputable def ref3_Stream_H : List Po := []
noncomputable def ref3_Stream_R : Pt := (.ref 0)
noncomputable def ref3_Stream_G : List Po := [(.arrN 1 5 .u8)]
noncomputable def ref3_Stream_V (f : Int → Int → Int → Option (Unit × List Int)) (x : (Int × Int × Int)) : Option (Unit × List Int) := f x.1 x.2.1 x.2.2
noncomputable def ref3_Stream_C : Cal := tbl [(20, (ent ref1_Words_P ref1_Words_H ref1_Words_R ref1_Words_G (ref1_Words_V (ref1_Words)))), (53, (ent ref1_Mac_P ref1_Mac_H ref1_Mac_R ref1_Mac_G (ref1_Mac_V (ref1_Mac))))]
theorem ref3_Stream_Cok : CalOK Tryz.prog ref3_Stream_C ∧ CalNt ref3_Stream_C := by
  unfold ref3_Stream_C
  exact tbl_ok (by
    intro p hp
    simp only [List.mem_cons, List.not_mem_nil, or_false] at hp
    rcases hp with rfl | rfl
    · exact ref1_Words_ok
    · exact ref1_Mac_ok)
noncomputable def ref3_Stream_FH : FH := { loops := [(4, { keep := [0, 1, 2, 7, 8], own := [(7, 5)] }, { keep := [2, 6, 7] })], ops := [(6, [(6, .borrow), (7, .borrow), (9, .borrow)]), (7, [(2, .take)])] }
theorem ref3_Stream_l4_s (a1 : Int) (a2 : Int) (a3 : Int) (a4 : Int) (a5 : List Int) : stepC Tryz.prog ref3_Stream_C ref3_Stream_FH [] [] 0 ((loopsAt 4 (codeOf Tryz.f51)).headD .skip) ref3_Stream_l4p ref3_Stream_l4x { keep := [0, 1, 2, 7, 8], own := [(7, 5)] } { keep := [2, 6, 7] } ((a1, a2, a3, (), a4), a5) _ some = ref3_Stream_l4 ((a1, a2, a3, (), a4), a5) := by kernel_rfl
theorem ref3_Stream_l4_t : ToldC Tryz.prog 0 (codeOf Tryz.f51) ((4, toldL ref3_Stream_l4p ref3_Stream_l4x ref3_Stream_l4) :: []) [] :=
  ToldC.loop ref3_Stream_FH 0 (ToldC.nil 0) ref3_Stream_Cok 4 ((loopsAt 4 (codeOf Tryz.f51)).headD .skip) (by kernel_rfl) (p := ref3_Stream_l4p) (px := ref3_Stream_l4x) (g := ref3_Stream_l4) (hi := { keep := [0, 1, 2, 7, 8], own := [(7, 5)] }) (ho := { keep := [2, 6, 7] }) (by kernel_rfl) fun (x : ((Int × Int × Int × Unit × Int) × List Int)) => ref3_Stream_l4_s x.1.1 x.1.2.1 x.1.2.2.1 x.1.2.2.2.2 x.2
theorem ref3_Stream_b (a1 : Int) (a2 : Int) (a3 : Int) : bodyC Tryz.prog ref3_Stream_C ref3_Stream_FH ((4, toldL ref3_Stream_l4p ref3_Stream_l4x ref3_Stream_l4) :: []) [] { keep := [] } 51 ref3_Stream_P ref3_Stream_H ref3_Stream_R ref3_Stream_G (a1, a2, a3) _ some = ref3_Stream a1 a2 a3 := by kernel_rfl
theorem ref3_Stream_ok : EntOK Tryz.prog 51 (ent ref3_Stream_P ref3_Stream_H ref3_Stream_R ref3_Stream_G (ref3_Stream_V (ref3_Stream))) :=
  ent_ok ref3_Stream_FH ref3_Stream_Cok (hp := ref3_Stream_H) (fn := Tryz.f51) (by kernel_rfl) ref3_Stream_l4_t fun (x : (Int × Int × Int)) => ref3_Stream_b x.1 x.2.1 x.2.2

/-! ref14_wrapKey: passkey/passkeyref14.wrapKey -/
noncomputable def ref14_wrapKey_P : Pt := (.int .u64)
noncomputable def ref14_wrapKey_H : List Po := []
noncomputable def ref14_wrapKey_R : Pt := (.int .u64)
noncomputable def ref14_wrapKey_G : List Po := []
noncomputable def ref14_wrapKey_V (f : Int → Option Int) (x : Int) : Option Int := f x
noncomputable def ref14_wrapKey_C : Cal := tbl [(18, (ent ref1_Derive_P ref1_Derive_H ref1_Derive_R ref1_Derive_G (ref1_Derive_V (ref1_Derive))))]
theorem ref14_wrapKey_Cok : CalOK Tryz.prog ref14_wrapKey_C ∧ CalNt ref14_wrapKey_C := by
  unfold ref14_wrapKey_C
  exact tbl_ok (by
    intro p hp
    simp only [List.mem_cons, List.not_mem_nil, or_false] at hp
    rcases hp with rfl
    exact ref1_Derive_ok)
noncomputable def ref14_wrapKey_FH : FH := {}
theorem ref14_wrapKey_b (a1 : Int) : bodyC Tryz.prog ref14_wrapKey_C ref14_wrapKey_FH [] [] { keep := [] } 52 ref14_wrapKey_P ref14_wrapKey_H ref14_wrapKey_R ref14_wrapKey_G a1 _ some = ref14_wrapKey a1 := by kernel_rfl
theorem ref14_wrapKey_ok : EntOK Tryz.prog 52 (ent ref14_wrapKey_P ref14_wrapKey_H ref14_wrapKey_R ref14_wrapKey_G (ref14_wrapKey_V (ref14_wrapKey))) :=
  ent_ok ref14_wrapKey_FH ref14_wrapKey_Cok (hp := ref14_wrapKey_H) (fn := Tryz.f52) (by kernel_rfl) (ToldC.nil 0) fun (x : Int) => ref14_wrapKey_b x

/-! ref1_Hash: passkey/passkeyref1.Hash -/
noncomputable def ref1_Hash_P : Pt := (.cons (.int .i64) (.nums .u8))
noncomputable def ref1_Hash_H : List Po := []
noncomputable def ref1_Hash_R : Pt := (.int .u64)
noncomputable def ref1_Hash_G : List Po := []
noncomputable def ref1_Hash_V (f : Int → (List Int) → Option Int) (x : (Int × List Int)) : Option Int := f x.1 x.2
noncomputable def ref1_Hash_C : Cal := tbl [(79, (ent ref1_Sum_P ref1_Sum_H ref1_Sum_R ref1_Sum_G (ref1_Sum_V (ref1_Sum))))]
theorem ref1_Hash_Cok : CalOK Tryz.prog ref1_Hash_C ∧ CalNt ref1_Hash_C := by
  unfold ref1_Hash_C
  exact tbl_ok (by
    intro p hp
    simp only [List.mem_cons, List.not_mem_nil, or_false] at hp
    rcases hp with rfl
    exact ref1_Sum_ok)
noncomputable def ref1_Hash_FH : FH := {}
theorem ref1_Hash_b (a1 : Int) (a2 : List Int) : bodyC Tryz.prog ref1_Hash_C ref1_Hash_FH [] [] { keep := [] } 56 ref1_Hash_P ref1_Hash_H ref1_Hash_R ref1_Hash_G (a1, a2) _ some = ref1_Hash a1 a2 := by kernel_rfl
theorem ref1_Hash_ok : EntOK Tryz.prog 56 (ent ref1_Hash_P ref1_Hash_H ref1_Hash_R ref1_Hash_G (ref1_Hash_V (ref1_Hash))) :=
  ent_ok ref1_Hash_FH ref1_Hash_Cok (hp := ref1_Hash_H) (fn := Tryz.f56) (by kernel_rfl) (ToldC.nil 0) fun (x : (Int × List Int)) => ref1_Hash_b x.1 x.2

/-! ref14_RPHash: passkey/passkeyref14.RPHash -/
noncomputable def ref14_RPHash_P : Pt := .str
noncomputable def ref14_RPHash_H : List Po := []
noncomputable def ref14_RPHash_R : Pt := (.int .u64)
noncomputable def ref14_RPHash_G : List Po := []
noncomputable def ref14_RPHash_V (f : ByteArray → Option Int) (x : ByteArray) : Option Int := f x
noncomputable def ref14_RPHash_C : Cal := tbl [(56, (ent ref1_Hash_P ref1_Hash_H ref1_Hash_R ref1_Hash_G (ref1_Hash_V (ref1_Hash))))]
theorem ref14_RPHash_Cok : CalOK Tryz.prog ref14_RPHash_C ∧ CalNt ref14_RPHash_C := by
  unfold ref14_RPHash_C
  exact tbl_ok (by
    intro p hp
    simp only [List.mem_cons, List.not_mem_nil, or_false] at hp
    rcases hp with rfl
    exact ref1_Hash_ok)
noncomputable def ref14_RPHash_FH : FH := { ops := [(1, [(2, .borrow)])] }
theorem ref14_RPHash_b (a1 : ByteArray) : bodyC Tryz.prog ref14_RPHash_C ref14_RPHash_FH [] [] { keep := [] } 21 ref14_RPHash_P ref14_RPHash_H ref14_RPHash_R ref14_RPHash_G a1 _ some = ref14_RPHash a1 := by kernel_rfl
theorem ref14_RPHash_ok : EntOK Tryz.prog 21 (ent ref14_RPHash_P ref14_RPHash_H ref14_RPHash_R ref14_RPHash_G (ref14_RPHash_V (ref14_RPHash))) :=
  ent_ok ref14_RPHash_FH ref14_RPHash_Cok (hp := ref14_RPHash_H) (fn := Tryz.f21) (by kernel_rfl) (ToldC.nil 0) fun (x : ByteArray) => ref14_RPHash_b x

/-! ref3_mix: passkey/passkeyref3.mix -/
noncomputable def ref3_mix_l4p : SP := { n := 34, ix := [2, 7, 8, 9], p := (.cons (.nums .u8) (.cons (.ref 0) (.cons (.ref 1) (.int .i64)))), hp := [(.arrN 1 5 .u8), (.arrN 1 5 .u8)] }
noncomputable def ref3_mix_l4x : List (Ex × SP) := [((.exit 0), { n := 34, ix := [8], p := (.ref 0), hp := [(.arrN 1 5 .u8)] })]
noncomputable def ref3_mix_P : Pt := (.cons (.int .u64) (.cons (.int .u64) (.nums .u8)))
noncomputable def ref3_mix_H : List Po := []
noncomputable def ref3_mix_R : Pt := (.ref 0)
noncomputable def ref3_mix_G : List Po := [(.arrN 1 5 .u8)]
noncomputable def ref3_mix_V (f : Int → Int → (List Int) → Option (Unit × List Int)) (x : (Int × Int × List Int)) : Option (Unit × List Int) := f x.1 x.2.1 x.2.2
noncomputable def ref3_mix_C : Cal := tbl [(51, (ent ref3_Stream_P ref3_Stream_H ref3_Stream_R ref3_Stream_G (ref3_Stream_V (ref3_Stream))))]
theorem ref3_mix_Cok : CalOK Tryz.prog ref3_mix_C ∧ CalNt ref3_mix_C := by
  unfold ref3_mix_C
  exact tbl_ok (by
    intro p hp
    simp only [List.mem_cons, List.not_mem_nil, or_false] at hp
    rcases hp with rfl
    exact ref3_Stream_ok)
noncomputable def ref3_mix_FH : FH := { loops := [(4, { keep := [2, 7, 8, 9], own := [(8, 5)] }, { keep := [6, 8] })], ops := [(6, [(3, .cold), (4, .cold)])], see := [(6, [(3, []), (4, []), (7, [0]), (8, [0])])] }
theorem ref3_mix_l4_s (a1 : List Int) (a2 : Int) (a3 : List Int) (a4 : List Int) : stepC Tryz.prog ref3_mix_C ref3_mix_FH [] [] 0 ((loopsAt 4 (codeOf Tryz.f54)).headD .skip) ref3_mix_l4p ref3_mix_l4x { keep := [2, 7, 8, 9], own := [(8, 5)] } { keep := [6, 8] } ((a1, (), (), a2), (a3, a4)) _ some = ref3_mix_l4 ((a1, (), (), a2), (a3, a4)) := by kernel_rfl
theorem ref3_mix_l4_t : ToldC Tryz.prog 0 (codeOf Tryz.f54) ((4, toldL ref3_mix_l4p ref3_mix_l4x ref3_mix_l4) :: []) [] :=
  ToldC.loop ref3_mix_FH 0 (ToldC.nil 0) ref3_mix_Cok 4 ((loopsAt 4 (codeOf Tryz.f54)).headD .skip) (by kernel_rfl) (p := ref3_mix_l4p) (px := ref3_mix_l4x) (g := ref3_mix_l4) (hi := { keep := [2, 7, 8, 9], own := [(8, 5)] }) (ho := { keep := [6, 8] }) (by kernel_rfl) fun (x : ((List Int × Unit × Unit × Int) × (List Int × List Int))) => ref3_mix_l4_s x.1.1 x.1.2.2.2 x.2.1 x.2.2
theorem ref3_mix_b (a1 : Int) (a2 : Int) (a3 : List Int) : bodyC Tryz.prog ref3_mix_C ref3_mix_FH ((4, toldL ref3_mix_l4p ref3_mix_l4x ref3_mix_l4) :: []) [] { keep := [] } 54 ref3_mix_P ref3_mix_H ref3_mix_R ref3_mix_G (a1, a2, a3) _ some = ref3_mix a1 a2 a3 := by kernel_rfl
theorem ref3_mix_ok : EntOK Tryz.prog 54 (ent ref3_mix_P ref3_mix_H ref3_mix_R ref3_mix_G (ref3_mix_V (ref3_mix))) :=
  ent_ok ref3_mix_FH ref3_mix_Cok (hp := ref3_mix_H) (fn := Tryz.f54) (by kernel_rfl) ref3_mix_l4_t fun (x : (Int × Int × List Int)) => ref3_mix_b x.1 x.2.1 x.2.2

/-! ref3_tag: passkey/passkeyref3.tag -/
noncomputable def ref3_tag_P : Pt := (.cons (.int .u64) (.cons (.int .u64) (.cons (.nums .u8) (.nums .u8))))
noncomputable def ref3_tag_H : List Po := []
noncomputable def ref3_tag_R : Pt := (.int .u64)
noncomputable def ref3_tag_G : List Po := []
noncomputable def ref3_tag_V (f : Int → Int → (List Int) → (List Int) → Option Int) (x : (Int × Int × List Int × List Int)) : Option Int := f x.1 x.2.1 x.2.2.1 x.2.2.2
noncomputable def ref3_tag_C : Cal := tbl [(20, (ent ref1_Words_P ref1_Words_H ref1_Words_R ref1_Words_G (ref1_Words_V (ref1_Words)))), (53, (ent ref1_Mac_P ref1_Mac_H ref1_Mac_R ref1_Mac_G (ref1_Mac_V (ref1_Mac))))]
theorem ref3_tag_Cok : CalOK Tryz.prog ref3_tag_C ∧ CalNt ref3_tag_C := by
  unfold ref3_tag_C
  exact tbl_ok (by
    intro p hp
    simp only [List.mem_cons, List.not_mem_nil, or_false] at hp
    rcases hp with rfl | rfl
    · exact ref1_Words_ok
    · exact ref1_Mac_ok)
noncomputable def ref3_tag_FH : FH := { ops := [(1, [(5, .borrow)]), (2, [(6, .borrow)])] }
theorem ref3_tag_b (a1 : Int) (a2 : Int) (a3 : List Int) (a4 : List Int) : bodyC Tryz.prog ref3_tag_C ref3_tag_FH [] [] { keep := [] } 55 ref3_tag_P ref3_tag_H ref3_tag_R ref3_tag_G (a1, a2, a3, a4) _ some = ref3_tag a1 a2 a3 a4 := by kernel_rfl
theorem ref3_tag_ok : EntOK Tryz.prog 55 (ent ref3_tag_P ref3_tag_H ref3_tag_R ref3_tag_G (ref3_tag_V (ref3_tag))) :=
  ent_ok ref3_tag_FH ref3_tag_Cok (hp := ref3_tag_H) (fn := Tryz.f55) (by kernel_rfl) (ToldC.nil 0) fun (x : (Int × Int × List Int × List Int)) => ref3_tag_b x.1 x.2.1 x.2.2.1 x.2.2.2

/-! ref3_Seal: passkey/passkeyref3.Seal -/
noncomputable def ref3_Seal_P : Pt := (.cons (.int .u64) (.cons (.int .u64) (.cons (.nums .u8) (.nums .u8))))
noncomputable def ref3_Seal_H : List Po := []
noncomputable def ref3_Seal_R : Pt := (.tup (.cons (.ref 0) (.int .i64)))
noncomputable def ref3_Seal_G : List Po := [(.arrN 1 5 .u8)]
noncomputable def ref3_Seal_V (f : Int → Int → (List Int) → (List Int) → Option ((Unit × Int) × List Int)) (x : (Int × Int × List Int × List Int)) : Option ((Unit × Int) × List Int) := f x.1 x.2.1 x.2.2.1 x.2.2.2
noncomputable def ref3_Seal_C : Cal := tbl [(54, (ent ref3_mix_P ref3_mix_H ref3_mix_R ref3_mix_G (ref3_mix_V (ref3_mix)))), (20, (ent ref1_Words_P ref1_Words_H ref1_Words_R ref1_Words_G (ref1_Words_V (ref1_Words)))), (55, (ent ref3_tag_P ref3_tag_H ref3_tag_R ref3_tag_G (ref3_tag_V (ref3_tag))))]
theorem ref3_Seal_Cok : CalOK Tryz.prog ref3_Seal_C ∧ CalNt ref3_Seal_C := by
  unfold ref3_Seal_C
  exact tbl_ok (by
    intro p hp
    simp only [List.mem_cons, List.not_mem_nil, or_false] at hp
    rcases hp with rfl | rfl | rfl
    · exact ref3_mix_ok
    · exact ref1_Words_ok
    · exact ref3_tag_ok)
noncomputable def ref3_Seal_FH : FH := { ops := [(4, [(2, .borrow)]), (5, [(5, .borrow), (7, .borrow)])] }
theorem ref3_Seal_b (a1 : Int) (a2 : Int) (a3 : List Int) (a4 : List Int) : bodyC Tryz.prog ref3_Seal_C ref3_Seal_FH [] [] { keep := [], own := [(0, 5)] } 19 ref3_Seal_P ref3_Seal_H ref3_Seal_R ref3_Seal_G (a1, a2, a3, a4) _ some = ref3_Seal a1 a2 a3 a4 := by kernel_rfl
theorem ref3_Seal_ok : EntOK Tryz.prog 19 (ent ref3_Seal_P ref3_Seal_H ref3_Seal_R ref3_Seal_G (ref3_Seal_V (ref3_Seal))) :=
  ent_ok ref3_Seal_FH ref3_Seal_Cok (hp := ref3_Seal_H) (fn := Tryz.f19) (by kernel_rfl) (ToldC.nil 0) fun (x : (Int × Int × List Int × List Int)) => ref3_Seal_b x.1 x.2.1 x.2.2.1 x.2.2.2

/-! ref14_ID: passkey/passkeyref14.ID -/
noncomputable def ref14_ID_P : Pt := (.cons (.int .u64) (.cons (.int .u64) (.agg (.cons .str (.cons .str (.cons .str (.cons (.int .u64) (.cons (.int .i64) (.cons .bool (.cons (.int .i64) (.cons .bool .bool)))))))))))
noncomputable def ref14_ID_H : List Po := []
noncomputable def ref14_ID_R : Pt := (.tup (.cons (.ref 0) (.int .i64)))
noncomputable def ref14_ID_G : List Po := [(.arrN 1 5 .u8)]
noncomputable def ref14_ID_V (f : Int → Int → ByteArray → ByteArray → ByteArray → Int → Int → Bool → Int → Bool → Bool → Option ((Unit × Int) × List Int)) (x : (Int × Int × (ByteArray × ByteArray × ByteArray × Int × Int × Bool × Int × Bool × Bool))) : Option ((Unit × Int) × List Int) := f x.1 x.2.1 x.2.2.1 x.2.2.2.1 x.2.2.2.2.1 x.2.2.2.2.2.1 x.2.2.2.2.2.2.1 x.2.2.2.2.2.2.2.1 x.2.2.2.2.2.2.2.2.1 x.2.2.2.2.2.2.2.2.2.1 x.2.2.2.2.2.2.2.2.2.2
noncomputable def ref14_ID_C : Cal := tbl [(14, (ent ref14_EncodeCredential_P ref14_EncodeCredential_H ref14_EncodeCredential_R ref14_EncodeCredential_G (ref14_EncodeCredential_V (ref14_EncodeCredential)))), (18, (ent ref1_Derive_P ref1_Derive_H ref1_Derive_R ref1_Derive_G (ref1_Derive_V (ref1_Derive)))), (51, (ent ref3_Stream_P ref3_Stream_H ref3_Stream_R ref3_Stream_G (ref3_Stream_V (ref3_Stream)))), (52, (ent ref14_wrapKey_P ref14_wrapKey_H ref14_wrapKey_R ref14_wrapKey_G (ref14_wrapKey_V (ref14_wrapKey)))), (21, (ent ref14_RPHash_P ref14_RPHash_H ref14_RPHash_R ref14_RPHash_G (ref14_RPHash_V (ref14_RPHash)))), (20, (ent ref1_Words_P ref1_Words_H ref1_Words_R ref1_Words_G (ref1_Words_V (ref1_Words)))), (19, (ent ref3_Seal_P ref3_Seal_H ref3_Seal_R ref3_Seal_G (ref3_Seal_V (ref3_Seal))))]
theorem ref14_ID_Cok : CalOK Tryz.prog ref14_ID_C ∧ CalNt ref14_ID_C := by
  unfold ref14_ID_C
  exact tbl_ok (by
    intro p hp
    simp only [List.mem_cons, List.not_mem_nil, or_false] at hp
    rcases hp with rfl | rfl | rfl | rfl | rfl | rfl | rfl
    · exact ref14_EncodeCredential_ok
    · exact ref1_Derive_ok
    · exact ref3_Stream_ok
    · exact ref14_wrapKey_ok
    · exact ref14_RPHash_ok
    · exact ref1_Words_ok
    · exact ref3_Seal_ok)
noncomputable def ref14_ID_FH : FH := { ops := [(8, [(7, .borrow), (9, .borrow)])], see := [(8, [(1, []), (4, [0])])] }
theorem ref14_ID_b (a1 : Int) (a2 : Int) (a3 : ByteArray) (a4 : ByteArray) (a5 : ByteArray) (a6 : Int) (a7 : Int) (a8 : Bool) (a9 : Int) (a10 : Bool) (a11 : Bool) : bodyC Tryz.prog ref14_ID_C ref14_ID_FH [] [] { keep := [], own := [(0, 5)] } 17 ref14_ID_P ref14_ID_H ref14_ID_R ref14_ID_G (a1, a2, (a3, a4, a5, a6, a7, a8, a9, a10, a11)) _ some = ref14_ID a1 a2 a3 a4 a5 a6 a7 a8 a9 a10 a11 := by kernel_rfl
theorem ref14_ID_ok : EntOK Tryz.prog 17 (ent ref14_ID_P ref14_ID_H ref14_ID_R ref14_ID_G (ref14_ID_V (ref14_ID))) :=
  ent_ok ref14_ID_FH ref14_ID_Cok (hp := ref14_ID_H) (fn := Tryz.f17) (by kernel_rfl) (ToldC.nil 0) fun (x : (Int × Int × (ByteArray × ByteArray × ByteArray × Int × Int × Bool × Int × Bool × Bool))) => ref14_ID_b x.1 x.2.1 x.2.2.1 x.2.2.2.1 x.2.2.2.2.1 x.2.2.2.2.2.1 x.2.2.2.2.2.2.1 x.2.2.2.2.2.2.2.1 x.2.2.2.2.2.2.2.2.1 x.2.2.2.2.2.2.2.2.2.1 x.2.2.2.2.2.2.2.2.2.2

/-! ref1_Word: passkey/passkeyref1.Word -/
noncomputable def ref1_Word_l3p : SP := { n := 24, ix := [0, 3, 4], p := (.cons (.nums .u8) (.cons (.int .u64) (.int .i64))) }
noncomputable def ref1_Word_l3x : List (Ex × SP) := [((.exit 0), { n := 24, ix := [3], p := (.int .u64) })]
noncomputable def ref1_Word_P : Pt := (.nums .u8)
noncomputable def ref1_Word_H : List Po := []
noncomputable def ref1_Word_R : Pt := (.int .u64)
noncomputable def ref1_Word_G : List Po := []
noncomputable def ref1_Word_V (f : (List Int) → Option Int) (x : List Int) : Option Int := f x
noncomputable def ref1_Word_C : Cal := tbl []
theorem ref1_Word_Cok : CalOK Tryz.prog ref1_Word_C ∧ CalNt ref1_Word_C := by
  unfold ref1_Word_C
  exact tbl_ok (by intro p hp; simp at hp)
noncomputable def ref1_Word_FH : FH := { loops := [(3, { keep := [0, 3, 4] }, { keep := [2, 3] })] }
theorem ref1_Word_l3_s (a1 : List Int) (a2 : Int) (a3 : Int) : stepC Tryz.prog ref1_Word_C ref1_Word_FH [] [] 0 ((loopsAt 3 (codeOf Tryz.f118)).headD .skip) ref1_Word_l3p ref1_Word_l3x { keep := [0, 3, 4] } { keep := [2, 3] } (a1, a2, a3) _ some = ref1_Word_l3 (a1, a2, a3) := by kernel_rfl
theorem ref1_Word_l3_t : ToldC Tryz.prog 0 (codeOf Tryz.f118) ((3, toldL ref1_Word_l3p ref1_Word_l3x ref1_Word_l3) :: []) [] :=
  ToldC.loop ref1_Word_FH 0 (ToldC.nil 0) ref1_Word_Cok 3 ((loopsAt 3 (codeOf Tryz.f118)).headD .skip) (by kernel_rfl) (p := ref1_Word_l3p) (px := ref1_Word_l3x) (g := ref1_Word_l3) (hi := { keep := [0, 3, 4] }) (ho := { keep := [2, 3] }) (by kernel_rfl) fun (x : (List Int × Int × Int)) => ref1_Word_l3_s x.1 x.2.1 x.2.2
theorem ref1_Word_b (a1 : List Int) : bodyC Tryz.prog ref1_Word_C ref1_Word_FH ((3, toldL ref1_Word_l3p ref1_Word_l3x ref1_Word_l3) :: []) [] { keep := [] } 118 ref1_Word_P ref1_Word_H ref1_Word_R ref1_Word_G a1 _ some = ref1_Word a1 := by kernel_rfl
theorem ref1_Word_ok : EntOK Tryz.prog 118 (ent ref1_Word_P ref1_Word_H ref1_Word_R ref1_Word_G (ref1_Word_V (ref1_Word))) :=
  ent_ok ref1_Word_FH ref1_Word_Cok (hp := ref1_Word_H) (fn := Tryz.f118) (by kernel_rfl) ref1_Word_l3_t fun (x : List Int) => ref1_Word_b x

/-! ref3_Open: passkey/passkeyref3.Open -/
noncomputable def ref3_Open_P : Pt := (.cons (.int .u64) (.cons (.nums .u8) (.nums .u8)))
noncomputable def ref3_Open_H : List Po := []
noncomputable def ref3_Open_R : Pt := (.tup (.cons (.ref 0) (.int .i64)))
noncomputable def ref3_Open_G : List Po := [(.arrN 1 5 .u8)]
noncomputable def ref3_Open_V (f : Int → (List Int) → (List Int) → Option ((Unit × Int) × List Int)) (x : (Int × List Int × List Int)) : Option ((Unit × Int) × List Int) := f x.1 x.2.1 x.2.2
noncomputable def ref3_Open_C : Cal := tbl [(118, (ent ref1_Word_P ref1_Word_H ref1_Word_R ref1_Word_G (ref1_Word_V (ref1_Word)))), (55, (ent ref3_tag_P ref3_tag_H ref3_tag_R ref3_tag_G (ref3_tag_V (ref3_tag)))), (54, (ent ref3_mix_P ref3_mix_H ref3_mix_R ref3_mix_G (ref3_mix_V (ref3_mix))))]
theorem ref3_Open_Cok : CalOK Tryz.prog ref3_Open_C ∧ CalNt ref3_Open_C := by
  unfold ref3_Open_C
  exact tbl_ok (by
    intro p hp
    simp only [List.mem_cons, List.not_mem_nil, or_false] at hp
    rcases hp with rfl | rfl | rfl
    · exact ref1_Word_ok
    · exact ref3_tag_ok
    · exact ref3_mix_ok)
noncomputable def ref3_Open_FH : FH := { see := [(5, [(1, []), (2, []), (5, []), (7, [])])] }
theorem ref3_Open_b (a1 : Int) (a2 : List Int) (a3 : List Int) : bodyC Tryz.prog ref3_Open_C ref3_Open_FH [] [] { keep := [], own := [(0, 5)] } 80 ref3_Open_P ref3_Open_H ref3_Open_R ref3_Open_G (a1, a2, a3) _ some = ref3_Open a1 a2 a3 := by kernel_rfl
theorem ref3_Open_ok : EntOK Tryz.prog 80 (ent ref3_Open_P ref3_Open_H ref3_Open_R ref3_Open_G (ref3_Open_V (ref3_Open))) :=
  ent_ok ref3_Open_FH ref3_Open_Cok (hp := ref3_Open_H) (fn := Tryz.f80) (by kernel_rfl) (ToldC.nil 0) fun (x : (Int × List Int × List Int)) => ref3_Open_b x.1 x.2.1 x.2.2

/-! ref1_reader_head_c23: (*passkey/passkeyref1.reader).head -/
noncomputable def ref1_reader_head_c23_j7p : SP := { n := 137, ix := [0, 2, 4], p := (.cons (.ptr 0 0) (.cons (.ptr 2 0) (.int .u8))), hp := [(.cells (.cons .str (.cons (.int .i64) (.ref 1)))), (.arrS 3 72 3), (.cells (.cons (.int .i64) (.cons (.int .u64) .str)))] }
noncomputable def ref1_reader_head_c23_j7x : List (Ex × SP) := [(.ret, { n := 137, ix := [2, 3], p := (.cons (.ptr 2 0) (.int .i64)), hp := [(.cells (.cons .str (.cons (.int .i64) (.ref 1)))), (.arrS 3 72 3), (.cells (.cons (.int .i64) (.cons (.int .u64) .str)))] })]
noncomputable def ref1_reader_head_c23_j9p : SP := { n := 137, ix := [0, 2, 4, 31], p := (.cons (.ptr 0 0) (.cons (.ptr 2 0) (.cons (.int .u8) (.int .u8)))), hp := [(.cells (.cons .str (.cons (.int .i64) (.ref 1)))), (.arrS 3 72 3), (.cells (.cons (.int .i64) (.cons (.int .u64) .str)))] }
noncomputable def ref1_reader_head_c23_j9x : List (Ex × SP) := [(.ret, { n := 137, ix := [2, 3], p := (.cons (.ptr 2 0) (.int .i64)), hp := [(.cells (.cons .str (.cons (.int .i64) (.ref 1)))), (.arrS 3 72 3), (.cells (.cons (.int .i64) (.cons (.int .u64) .str)))] }), (.norm, { n := 137, ix := [0, 2, 4], p := (.cons (.ptr 0 0) (.cons (.ptr 2 0) (.int .u8))), hp := [(.cells (.cons .str (.cons (.int .i64) (.ref 1)))), (.arrS 3 72 3), (.cells (.cons (.int .i64) (.cons (.int .u64) .str)))] })]
noncomputable def ref1_reader_head_c23_l24p : SP := { n := 137, ix := [0, 2, 5, 7, 8, 9], p := (.cons (.ptr 0 0) (.cons (.ptr 2 0) (.cons (.int .i64) (.cons (.int .i64) (.cons (.int .u64) (.int .i64)))))), hp := [(.cells (.cons .str (.cons (.int .i64) (.ref 1)))), (.arrS 3 72 3), (.cells (.cons (.int .i64) (.cons (.int .u64) .str)))] }
noncomputable def ref1_reader_head_c23_l24x : List (Ex × SP) := [((.exit 1), { n := 137, ix := [0, 2, 5, 7, 8], p := (.cons (.ptr 0 0) (.cons (.ptr 2 0) (.cons (.int .i64) (.cons (.int .i64) (.int .u64))))), hp := [(.cells (.cons .str (.cons (.int .i64) (.ref 1)))), (.arrS 3 72 3), (.cells (.cons (.int .i64) (.cons (.int .u64) .str)))] })]
noncomputable def ref1_reader_head_c23_j23p : SP := { n := 137, ix := [0, 2, 5, 7, 8], p := (.cons (.ptr 0 0) (.cons (.ptr 2 0) (.cons (.int .i64) (.cons (.int .i64) (.int .u64))))), hp := [(.cells (.cons .str (.cons (.int .i64) (.ref 1)))), (.arrS 3 72 3), (.cells (.cons (.int .i64) (.cons (.int .u64) .str)))] }
noncomputable def ref1_reader_head_c23_j23x : List (Ex × SP) := [(.ret, { n := 137, ix := [2, 3], p := (.cons (.ptr 2 0) (.int .i64)), hp := [(.cells (.cons .str (.cons (.int .i64) (.ref 1)))), (.arrS 3 72 3), (.cells (.cons (.int .i64) (.cons (.int .u64) .str)))] })]
noncomputable def ref1_reader_head_c23_j18p : SP := { n := 137, ix := [0, 2, 5, 6, 7], p := (.cons (.ptr 0 0) (.cons (.ptr 2 0) (.cons (.int .i64) (.cons (.int .i64) (.int .i64))))), hp := [(.cells (.cons .str (.cons (.int .i64) (.ref 1)))), (.arrS 3 72 3), (.cells (.cons (.int .i64) (.cons (.int .u64) .str)))] }
noncomputable def ref1_reader_head_c23_j18x : List (Ex × SP) := [(.ret, { n := 137, ix := [2, 3], p := (.cons (.ptr 2 0) (.int .i64)), hp := [(.cells (.cons .str (.cons (.int .i64) (.ref 1)))), (.arrS 3 72 3), (.cells (.cons (.int .i64) (.cons (.int .u64) .str)))] })]
noncomputable def ref1_reader_head_c23_P : Pt := (.ptr 0 0)
noncomputable def ref1_reader_head_c23_H : List Po := [(.cells (.cons .str (.cons (.int .i64) (.ref 1)))), (.arrS 3 72 3)]
noncomputable def ref1_reader_head_c23_R : Pt := (.tup (.cons (.agg (.cons (.int .i64) (.cons (.int .u64) .str))) (.int .i64)))
noncomputable def ref1_reader_head_c23_G : List Po := [(.cells (.cons .str (.cons (.int .i64) (.ref 1)))), (.arrS 3 72 3)]
noncomputable def ref1_reader_head_c23_V (f : ByteArray → Int → (List PD) → Option (((Int × Int × ByteArray) × Int) × ((ByteArray × Int × Unit) × List PD))) (x : (Unit × ((ByteArray × Int × Unit) × List PD))) : Option (((Int × Int × ByteArray) × Int) × ((ByteArray × Int × Unit) × List PD)) := f x.2.1.1 x.2.1.2.1 x.2.2
noncomputable def ref1_reader_head_c23_C : Cal := tbl []
theorem ref1_reader_head_c23_Cok : CalOK Tryz.prog ref1_reader_head_c23_C ∧ CalNt ref1_reader_head_c23_C := by
  unfold ref1_reader_head_c23_C
  exact tbl_ok (by intro p hp; simp at hp)
noncomputable def ref1_reader_head_c23_FH : FH := { join := [(7, { keep := [0, 2, 4] }), (9, { keep := [0, 2, 4, 31] }), (23, { keep := [0, 2, 5, 7, 8] }), (18, { keep := [0, 2, 5, 6, 7] })], loops := [(24, { keep := [0, 2, 5, 7, 8, 9] }, { keep := [0, 2, 3, 5, 7, 8] })], see := [(1, [(3, [0]), (7, [0]), (8, [])]), (3, [(3, [0]), (7, [0])]), (18, [(3, [0]), (4, []), (8, [0])]), (26, [(5, [0]), (9, [0])])] }
theorem ref1_reader_head_c23_j7_s (a1 : Int) (a2 : ByteArray) (a3 : Int) (a4 : List PD) (a5 : Int) (a6 : Int) (a7 : ByteArray) : joinC Tryz.prog ref1_reader_head_c23_C ref1_reader_head_c23_FH [] [] 2 ((joinsAt 7 (codeOf Tryz.f173)).headD .skip) ref1_reader_head_c23_j7p ref1_reader_head_c23_j7x { keep := [0, 2, 3, 4] } (((), (), a1), ((a2, a3, ()), a4, (a5, a6, a7))) _ some = ref1_reader_head_c23_j7 (((), (), a1), ((a2, a3, ()), a4, (a5, a6, a7))) := by kernel_rfl
theorem ref1_reader_head_c23_j7_t : ToldC Tryz.prog 2 (codeOf Tryz.f173) [] ((7, toldJ ref1_reader_head_c23_j7p ref1_reader_head_c23_j7x ref1_reader_head_c23_j7) :: []) :=
  ToldC.join ref1_reader_head_c23_FH 2 (ToldC.nil 2) ref1_reader_head_c23_Cok 7 ((joinsAt 7 (codeOf Tryz.f173)).headD .skip) (by kernel_rfl) (p := ref1_reader_head_c23_j7p) (px := ref1_reader_head_c23_j7x) (g := ref1_reader_head_c23_j7) (ho := { keep := [0, 2, 3, 4] }) fun (x : ((Unit × Unit × Int) × ((ByteArray × Int × Unit) × List PD × (Int × Int × ByteArray)))) => ref1_reader_head_c23_j7_s x.1.2.2 x.2.1.1 x.2.1.2.1 x.2.2.1 x.2.2.2.1 x.2.2.2.2.1 x.2.2.2.2.2
theorem ref1_reader_head_c23_j9_s (a1 : Int) (a2 : Int) (a3 : ByteArray) (a4 : Int) (a5 : List PD) (a6 : Int) (a7 : Int) (a8 : ByteArray) : joinC Tryz.prog ref1_reader_head_c23_C ref1_reader_head_c23_FH [] ((7, toldJ ref1_reader_head_c23_j7p ref1_reader_head_c23_j7x ref1_reader_head_c23_j7) :: []) 2 ((joinsAt 9 (codeOf Tryz.f173)).headD .skip) ref1_reader_head_c23_j9p ref1_reader_head_c23_j9x { keep := [0, 2, 3, 4] } (((), (), a1, a2), ((a3, a4, ()), a5, (a6, a7, a8))) _ some = ref1_reader_head_c23_j9 (((), (), a1, a2), ((a3, a4, ()), a5, (a6, a7, a8))) := by kernel_rfl
theorem ref1_reader_head_c23_j9_t : ToldC Tryz.prog 2 (codeOf Tryz.f173) [] ((9, toldJ ref1_reader_head_c23_j9p ref1_reader_head_c23_j9x ref1_reader_head_c23_j9) :: ((7, toldJ ref1_reader_head_c23_j7p ref1_reader_head_c23_j7x ref1_reader_head_c23_j7) :: [])) :=
  ToldC.join ref1_reader_head_c23_FH 2 ref1_reader_head_c23_j7_t ref1_reader_head_c23_Cok 9 ((joinsAt 9 (codeOf Tryz.f173)).headD .skip) (by kernel_rfl) (p := ref1_reader_head_c23_j9p) (px := ref1_reader_head_c23_j9x) (g := ref1_reader_head_c23_j9) (ho := { keep := [0, 2, 3, 4] }) fun (x : ((Unit × Unit × Int × Int) × ((ByteArray × Int × Unit) × List PD × (Int × Int × ByteArray)))) => ref1_reader_head_c23_j9_s x.1.2.2.1 x.1.2.2.2 x.2.1.1 x.2.1.2.1 x.2.2.1 x.2.2.2.1 x.2.2.2.2.1 x.2.2.2.2.2
theorem ref1_reader_head_c23_l24_s (a1 : Int) (a2 : Int) (a3 : Int) (a4 : Int) (a5 : ByteArray) (a6 : Int) (a7 : List PD) (a8 : Int) (a9 : Int) (a10 : ByteArray) : stepC Tryz.prog ref1_reader_head_c23_C ref1_reader_head_c23_FH [] ((9, toldJ ref1_reader_head_c23_j9p ref1_reader_head_c23_j9x ref1_reader_head_c23_j9) :: ((7, toldJ ref1_reader_head_c23_j7p ref1_reader_head_c23_j7x ref1_reader_head_c23_j7) :: [])) 2 ((loopsAt 24 (codeOf Tryz.f173)).headD .skip) ref1_reader_head_c23_l24p ref1_reader_head_c23_l24x { keep := [0, 2, 5, 7, 8, 9] } { keep := [0, 2, 3, 5, 7, 8] } (((), (), a1, a2, a3, a4), ((a5, a6, ()), a7, (a8, a9, a10))) _ some = ref1_reader_head_c23_l24 (((), (), a1, a2, a3, a4), ((a5, a6, ()), a7, (a8, a9, a10))) := by kernel_rfl
theorem ref1_reader_head_c23_l24_t : ToldC Tryz.prog 2 (codeOf Tryz.f173) ((24, toldL ref1_reader_head_c23_l24p ref1_reader_head_c23_l24x ref1_reader_head_c23_l24) :: []) ((9, toldJ ref1_reader_head_c23_j9p ref1_reader_head_c23_j9x ref1_reader_head_c23_j9) :: ((7, toldJ ref1_reader_head_c23_j7p ref1_reader_head_c23_j7x ref1_reader_head_c23_j7) :: [])) :=
  ToldC.loop ref1_reader_head_c23_FH 2 ref1_reader_head_c23_j9_t ref1_reader_head_c23_Cok 24 ((loopsAt 24 (codeOf Tryz.f173)).headD .skip) (by kernel_rfl) (p := ref1_reader_head_c23_l24p) (px := ref1_reader_head_c23_l24x) (g := ref1_reader_head_c23_l24) (hi := { keep := [0, 2, 5, 7, 8, 9] }) (ho := { keep := [0, 2, 3, 5, 7, 8] }) (by kernel_rfl) fun (x : ((Unit × Unit × Int × Int × Int × Int) × ((ByteArray × Int × Unit) × List PD × (Int × Int × ByteArray)))) => ref1_reader_head_c23_l24_s x.1.2.2.1 x.1.2.2.2.1 x.1.2.2.2.2.1 x.1.2.2.2.2.2 x.2.1.1 x.2.1.2.1 x.2.2.1 x.2.2.2.1 x.2.2.2.2.1 x.2.2.2.2.2
theorem ref1_reader_head_c23_j23_s (a1 : Int) (a2 : Int) (a3 : Int) (a4 : ByteArray) (a5 : Int) (a6 : List PD) (a7 : Int) (a8 : Int) (a9 : ByteArray) : joinC Tryz.prog ref1_reader_head_c23_C ref1_reader_head_c23_FH ((24, toldL ref1_reader_head_c23_l24p ref1_reader_head_c23_l24x ref1_reader_head_c23_l24) :: []) ((9, toldJ ref1_reader_head_c23_j9p ref1_reader_head_c23_j9x ref1_reader_head_c23_j9) :: ((7, toldJ ref1_reader_head_c23_j7p ref1_reader_head_c23_j7x ref1_reader_head_c23_j7) :: [])) 2 ((joinsAt 23 (codeOf Tryz.f173)).headD .skip) ref1_reader_head_c23_j23p ref1_reader_head_c23_j23x { keep := [2, 3] } (((), (), a1, a2, a3), ((a4, a5, ()), a6, (a7, a8, a9))) _ some = ref1_reader_head_c23_j23 (((), (), a1, a2, a3), ((a4, a5, ()), a6, (a7, a8, a9))) := by kernel_rfl
theorem ref1_reader_head_c23_j23_t : ToldC Tryz.prog 2 (codeOf Tryz.f173) ((24, toldL ref1_reader_head_c23_l24p ref1_reader_head_c23_l24x ref1_reader_head_c23_l24) :: []) ((23, toldJ ref1_reader_head_c23_j23p ref1_reader_head_c23_j23x ref1_reader_head_c23_j23) :: ((9, toldJ ref1_reader_head_c23_j9p ref1_reader_head_c23_j9x ref1_reader_head_c23_j9) :: ((7, toldJ ref1_reader_head_c23_j7p ref1_reader_head_c23_j7x ref1_reader_head_c23_j7) :: []))) :=
  ToldC.join ref1_reader_head_c23_FH 2 ref1_reader_head_c23_l24_t ref1_reader_head_c23_Cok 23 ((joinsAt 23 (codeOf Tryz.f173)).headD .skip) (by kernel_rfl) (p := ref1_reader_head_c23_j23p) (px := ref1_reader_head_c23_j23x) (g := ref1_reader_head_c23_j23) (ho := { keep := [2, 3] }) fun (x : ((Unit × Unit × Int × Int × Int) × ((ByteArray × Int × Unit) × List PD × (Int × Int × ByteArray)))) => ref1_reader_head_c23_j23_s x.1.2.2.1 x.1.2.2.2.1 x.1.2.2.2.2 x.2.1.1 x.2.1.2.1 x.2.2.1 x.2.2.2.1 x.2.2.2.2.1 x.2.2.2.2.2
theorem ref1_reader_head_c23_j18_s (a1 : Int) (a2 : Int) (a3 : Int) (a4 : ByteArray) (a5 : Int) (a6 : List PD) (a7 : Int) (a8 : Int) (a9 : ByteArray) : joinC Tryz.prog ref1_reader_head_c23_C ref1_reader_head_c23_FH ((24, toldL ref1_reader_head_c23_l24p ref1_reader_head_c23_l24x ref1_reader_head_c23_l24) :: []) ((23, toldJ ref1_reader_head_c23_j23p ref1_reader_head_c23_j23x ref1_reader_head_c23_j23) :: ((9, toldJ ref1_reader_head_c23_j9p ref1_reader_head_c23_j9x ref1_reader_head_c23_j9) :: ((7, toldJ ref1_reader_head_c23_j7p ref1_reader_head_c23_j7x ref1_reader_head_c23_j7) :: []))) 2 ((joinsAt 18 (codeOf Tryz.f173)).headD .skip) ref1_reader_head_c23_j18p ref1_reader_head_c23_j18x { keep := [2, 3] } (((), (), a1, a2, a3), ((a4, a5, ()), a6, (a7, a8, a9))) _ some = ref1_reader_head_c23_j18 (((), (), a1, a2, a3), ((a4, a5, ()), a6, (a7, a8, a9))) := by kernel_rfl
theorem ref1_reader_head_c23_j18_t : ToldC Tryz.prog 2 (codeOf Tryz.f173) ((24, toldL ref1_reader_head_c23_l24p ref1_reader_head_c23_l24x ref1_reader_head_c23_l24) :: []) ((18, toldJ ref1_reader_head_c23_j18p ref1_reader_head_c23_j18x ref1_reader_head_c23_j18) :: ((23, toldJ ref1_reader_head_c23_j23p ref1_reader_head_c23_j23x ref1_reader_head_c23_j23) :: ((9, toldJ ref1_reader_head_c23_j9p ref1_reader_head_c23_j9x ref1_reader_head_c23_j9) :: ((7, toldJ ref1_reader_head_c23_j7p ref1_reader_head_c23_j7x ref1_reader_head_c23_j7) :: [])))) :=
  ToldC.join ref1_reader_head_c23_FH 2 ref1_reader_head_c23_j23_t ref1_reader_head_c23_Cok 18 ((joinsAt 18 (codeOf Tryz.f173)).headD .skip) (by kernel_rfl) (p := ref1_reader_head_c23_j18p) (px := ref1_reader_head_c23_j18x) (g := ref1_reader_head_c23_j18) (ho := { keep := [2, 3] }) fun (x : ((Unit × Unit × Int × Int × Int) × ((ByteArray × Int × Unit) × List PD × (Int × Int × ByteArray)))) => ref1_reader_head_c23_j18_s x.1.2.2.1 x.1.2.2.2.1 x.1.2.2.2.2 x.2.1.1 x.2.1.2.1 x.2.2.1 x.2.2.2.1 x.2.2.2.2.1 x.2.2.2.2.2
theorem ref1_reader_head_c23_b (a1 : ByteArray) (a2 : Int) (a3 : List PD) : bodyC Tryz.prog ref1_reader_head_c23_C ref1_reader_head_c23_FH ((24, toldL ref1_reader_head_c23_l24p ref1_reader_head_c23_l24x ref1_reader_head_c23_l24) :: []) ((18, toldJ ref1_reader_head_c23_j18p ref1_reader_head_c23_j18x ref1_reader_head_c23_j18) :: ((23, toldJ ref1_reader_head_c23_j23p ref1_reader_head_c23_j23x ref1_reader_head_c23_j23) :: ((9, toldJ ref1_reader_head_c23_j9p ref1_reader_head_c23_j9x ref1_reader_head_c23_j9) :: ((7, toldJ ref1_reader_head_c23_j7p ref1_reader_head_c23_j7x ref1_reader_head_c23_j7) :: [])))) { keep := [] } 173 ref1_reader_head_c23_P ref1_reader_head_c23_H ref1_reader_head_c23_R ref1_reader_head_c23_G ((), ((a1, a2, ()), a3)) _ some = ref1_reader_head_c23 a1 a2 a3 := by kernel_rfl
theorem ref1_reader_head_c23_ok : EntOK Tryz.prog 173 (ent ref1_reader_head_c23_P ref1_reader_head_c23_H ref1_reader_head_c23_R ref1_reader_head_c23_G (ref1_reader_head_c23_V (ref1_reader_head_c23))) :=
  ent_ok ref1_reader_head_c23_FH ref1_reader_head_c23_Cok (hp := ref1_reader_head_c23_H) (fn := Tryz.f173) (by kernel_rfl) ref1_reader_head_c23_j18_t fun (x : (Unit × ((ByteArray × Int × Unit) × List PD))) => ref1_reader_head_c23_b x.2.1.1 x.2.1.2.1 x.2.2

/-! ref1_reader_item_0da: (*passkey/passkeyref1.reader).item -/
noncomputable def ref1_reader_item_0da_j15p : SP := { n := 191, ix := [0, 1, 2, 3, 9, 11, 12, 13], p := (.cons (.ptr 0 0) (.cons (.int .i64) (.cons .bool (.cons .str (.cons (.ptr 2 0) (.cons (.int .u64) (.cons .bool .bool))))))), hp := [(.cells (.cons .str (.cons (.int .i64) (.ref 1)))), (.arrS 3 72 3), (.cells (.cons (.int .i64) (.cons (.int .u64) .str)))] }
noncomputable def ref1_reader_item_0da_j15x : List (Ex × SP) := [(.ret, { n := 191, ix := [0, 1, 2, 3, 8, 9, 11, 12, 13], p := (.cons (.ptr 0 0) (.cons (.int .i64) (.cons .bool (.cons .str (.cons (.int .i64) (.cons (.ptr 2 0) (.cons (.int .u64) (.cons .bool .bool)))))))), hp := [(.cells (.cons .str (.cons (.int .i64) (.ref 1)))), (.arrS 3 72 3), (.cells (.cons (.int .i64) (.cons (.int .u64) .str)))] }), (.norm, { n := 191, ix := [0, 1, 2, 3, 9, 11, 12, 13], p := (.cons (.ptr 0 0) (.cons (.int .i64) (.cons .bool (.cons .str (.cons (.ptr 2 0) (.cons (.int .u64) (.cons .bool .bool))))))), hp := [(.cells (.cons .str (.cons (.int .i64) (.ref 1)))), (.arrS 3 72 3), (.cells (.cons (.int .i64) (.cons (.int .u64) .str)))] })]
noncomputable def ref1_reader_item_0da_j11p : SP := { n := 191, ix := [0, 1, 2, 3, 9, 11, 12, 13], p := (.cons (.ptr 0 0) (.cons (.int .i64) (.cons .bool (.cons .str (.cons (.ptr 2 0) (.cons (.int .u64) (.cons .bool .bool))))))), hp := [(.cells (.cons .str (.cons (.int .i64) (.ref 1)))), (.arrS 3 72 3), (.cells (.cons (.int .i64) (.cons (.int .u64) .str)))] }
noncomputable def ref1_reader_item_0da_j11x : List (Ex × SP) := [(.ret, { n := 191, ix := [0, 1, 2, 3, 8, 9, 11, 12, 13], p := (.cons (.ptr 0 0) (.cons (.int .i64) (.cons .bool (.cons .str (.cons (.int .i64) (.cons (.ptr 2 0) (.cons (.int .u64) (.cons .bool .bool)))))))), hp := [(.cells (.cons .str (.cons (.int .i64) (.ref 1)))), (.arrS 3 72 3), (.cells (.cons (.int .i64) (.cons (.int .u64) .str)))] }), (.norm, { n := 191, ix := [0, 1, 2, 3, 9, 11, 12, 13], p := (.cons (.ptr 0 0) (.cons (.int .i64) (.cons .bool (.cons .str (.cons (.ptr 2 0) (.cons (.int .u64) (.cons .bool .bool))))))), hp := [(.cells (.cons .str (.cons (.int .i64) (.ref 1)))), (.arrS 3 72 3), (.cells (.cons (.int .i64) (.cons (.int .u64) .str)))] })]
noncomputable def ref1_reader_item_0da_l27p : SP := { n := 191, ix := [0, 1, 9, 11, 13, 14, 15], p := (.cons (.ptr 0 0) (.cons (.int .i64) (.cons (.ptr 3 0) (.cons (.int .u64) (.cons .bool (.cons .str (.int .u64))))))), hp := [(.cells (.cons .str (.cons (.int .i64) (.ref 2)))), .dead, (.arrS 3 72 3), (.cells (.cons (.int .i64) (.cons (.int .u64) .str)))] }
noncomputable def ref1_reader_item_0da_l27x : List (Ex × SP) := [(.ret, { n := 191, ix := [8], p := (.int .i64), hp := [(.cells (.cons .str (.cons (.int .i64) (.ref 2)))), .dead, (.arrS 3 72 3)] }), ((.exit 1), { n := 191, ix := [], p := .nil, hp := [(.cells (.cons .str (.cons (.int .i64) (.ref 2)))), .dead, (.arrS 3 72 3)] })]
noncomputable def ref1_reader_item_0da_j20p : SP := { n := 191, ix := [0, 1, 2, 3, 9, 11, 13], p := (.cons (.ptr 0 0) (.cons (.int .i64) (.cons .bool (.cons .str (.cons (.ptr 2 0) (.cons (.int .u64) .bool)))))), hp := [(.cells (.cons .str (.cons (.int .i64) (.ref 1)))), (.arrS 3 72 3), (.cells (.cons (.int .i64) (.cons (.int .u64) .str)))] }
noncomputable def ref1_reader_item_0da_j20x : List (Ex × SP) := [(.ret, { n := 191, ix := [8], p := (.int .i64), hp := [(.cells (.cons .str (.cons (.int .i64) (.ref 2)))), .dead, (.arrS 3 72 3)] })]
noncomputable def ref1_reader_item_0da_j7p : SP := { n := 191, ix := [0, 1, 2, 3, 9, 11, 12, 13], p := (.cons (.ptr 0 0) (.cons (.int .i64) (.cons .bool (.cons .str (.cons (.ptr 2 0) (.cons (.int .u64) (.cons .bool .bool))))))), hp := [(.cells (.cons .str (.cons (.int .i64) (.ref 1)))), (.arrS 3 72 3), (.cells (.cons (.int .i64) (.cons (.int .u64) .str)))] }
noncomputable def ref1_reader_item_0da_j7x : List (Ex × SP) := [(.ret, { n := 191, ix := [8], p := (.int .i64), hp := [(.cells (.cons .str (.cons (.int .i64) (.ref 2)))), .dead, (.arrS 3 72 3)] })]
noncomputable def ref1_reader_item_0da_j6p : SP := { n := 191, ix := [0, 1, 2, 3, 9, 11, 12], p := (.cons (.ptr 0 0) (.cons (.int .i64) (.cons .bool (.cons .str (.cons (.ptr 2 0) (.cons (.int .u64) .bool)))))), hp := [(.cells (.cons .str (.cons (.int .i64) (.ref 1)))), (.arrS 3 72 3), (.cells (.cons (.int .i64) (.cons (.int .u64) .str)))] }
noncomputable def ref1_reader_item_0da_j6x : List (Ex × SP) := [(.ret, { n := 191, ix := [8], p := (.int .i64), hp := [(.cells (.cons .str (.cons (.int .i64) (.ref 2)))), .dead, (.arrS 3 72 3)] })]
noncomputable def ref1_reader_item_0da_P : Pt := (.cons (.ptr 0 0) (.cons (.int .i64) (.cons .bool .str)))
noncomputable def ref1_reader_item_0da_H : List Po := [(.cells (.cons .str (.cons (.int .i64) (.ref 1)))), (.arrS 3 72 3)]
noncomputable def ref1_reader_item_0da_R : Pt := (.int .i64)
noncomputable def ref1_reader_item_0da_G : List Po := [(.cells (.cons .str (.cons (.int .i64) (.ref 2)))), .dead, (.arrS 3 72 3)]
noncomputable def ref1_reader_item_0da_V (f : Int → Bool → ByteArray → ByteArray → Int → (List PD) → Option (Int × ((ByteArray × Int × Unit) × Unit × List PD))) (x : ((Unit × Int × Bool × ByteArray) × ((ByteArray × Int × Unit) × List PD))) : Option (Int × ((ByteArray × Int × Unit) × Unit × List PD)) := f x.1.2.1 x.1.2.2.1 x.1.2.2.2 x.2.1.1 x.2.1.2.1 x.2.2
noncomputable def ref1_reader_item_0da_C (r_ref1_reader_item_0da : Int → Bool → ByteArray → ByteArray → Int → (List PD) → Option (Int × ((ByteArray × Int × Unit) × Unit × List PD))) : Cal := tbl [(173, (ent ref1_reader_head_c23_P ref1_reader_head_c23_H ref1_reader_head_c23_R ref1_reader_head_c23_G (ref1_reader_head_c23_V (ref1_reader_head_c23)))), (171, (ent ref1_isKey_P ref1_isKey_H ref1_isKey_R ref1_isKey_G (ref1_isKey_V (ref1_isKey)))), (49, (ent utf8_ValidString_P utf8_ValidString_H utf8_ValidString_R utf8_ValidString_G utf8_ValidString_W)), (77, (ent ref1_Bytes_P ref1_Bytes_H ref1_Bytes_R ref1_Bytes_G (ref1_Bytes_V (ref1_Bytes)))), (172, (ent ref1_less_P ref1_less_H ref1_less_R ref1_less_G (ref1_less_V (ref1_less)))), (155, (ent ref1_reader_item_0da_P ref1_reader_item_0da_H ref1_reader_item_0da_R ref1_reader_item_0da_G (ref1_reader_item_0da_V r_ref1_reader_item_0da)))]
theorem ref1_reader_item_0da_Cok (r_ref1_reader_item_0da : Int → Bool → ByteArray → ByteArray → Int → (List PD) → Option (Int × ((ByteArray × Int × Unit) × Unit × List PD))) (h_ref1_reader_item_0da : EntOK Tryz.prog 155 (ent ref1_reader_item_0da_P ref1_reader_item_0da_H ref1_reader_item_0da_R ref1_reader_item_0da_G (ref1_reader_item_0da_V r_ref1_reader_item_0da))) : CalOK Tryz.prog (ref1_reader_item_0da_C r_ref1_reader_item_0da) ∧ CalNt (ref1_reader_item_0da_C r_ref1_reader_item_0da) := by
  unfold ref1_reader_item_0da_C
  exact tbl_ok (by
    intro p hp
    simp only [List.mem_cons, List.not_mem_nil, or_false] at hp
    rcases hp with rfl | rfl | rfl | rfl | rfl | rfl
    · exact ref1_reader_head_c23_ok
    · exact ref1_isKey_ok
    · exact utf8_ValidString_ok
    · exact ref1_Bytes_ok
    · exact ref1_less_ok
    · exact h_ref1_reader_item_0da)
noncomputable def ref1_reader_item_0da_FH : FH := { join := [(15, { keep := [0, 1, 2, 3, 9, 11, 12, 13] }), (11, { keep := [0, 1, 2, 3, 9, 11, 12, 13] }), (20, { keep := [0, 1, 2, 3, 9, 11, 13] }), (7, { keep := [0, 1, 2, 3, 9, 11, 12, 13] }), (6, { keep := [0, 1, 2, 3, 9, 11, 12] })], loops := [(27, { keep := [0, 1, 9, 11, 13, 14, 15] }, { keep := [8] })], see := [(15, [(5, [0]), (6, []), (10, [0])]), (18, [(3, [0]), (7, [0]), (11, [0]), (13, []), (15, []), (17, [2])]), (24, [(4, [0]), (5, [2]), (6, [])])] }
theorem ref1_reader_item_0da_j15_s (r_ref1_reader_item_0da : Int → Bool → ByteArray → ByteArray → Int → (List PD) → Option (Int × ((ByteArray × Int × Unit) × Unit × List PD))) (a1 : Int) (a2 : Bool) (a3 : ByteArray) (a4 : Int) (a5 : Bool) (a6 : Bool) (a7 : ByteArray) (a8 : Int) (a9 : List PD) (a10 : Int) (a11 : Int) (a12 : ByteArray) : joinC Tryz.prog (ref1_reader_item_0da_C r_ref1_reader_item_0da) ref1_reader_item_0da_FH [] [] 2 ((joinsAt 15 (codeOf Tryz.f155)).headD .skip) ref1_reader_item_0da_j15p ref1_reader_item_0da_j15x { keep := [0, 1, 2, 3, 8, 9, 11, 12, 13] } (((), a1, a2, a3, (), a4, a5, a6), ((a7, a8, ()), a9, (a10, a11, a12))) _ some = (ref1_reader_item_0da_j15 r_ref1_reader_item_0da) (((), a1, a2, a3, (), a4, a5, a6), ((a7, a8, ()), a9, (a10, a11, a12))) := by kernel_rfl
theorem ref1_reader_item_0da_j15_t (r_ref1_reader_item_0da : Int → Bool → ByteArray → ByteArray → Int → (List PD) → Option (Int × ((ByteArray × Int × Unit) × Unit × List PD))) (h_ref1_reader_item_0da : EntOK Tryz.prog 155 (ent ref1_reader_item_0da_P ref1_reader_item_0da_H ref1_reader_item_0da_R ref1_reader_item_0da_G (ref1_reader_item_0da_V r_ref1_reader_item_0da))) : ToldC Tryz.prog 2 (codeOf Tryz.f155) [] ((15, toldJ ref1_reader_item_0da_j15p ref1_reader_item_0da_j15x (ref1_reader_item_0da_j15 r_ref1_reader_item_0da)) :: []) :=
  ToldC.join ref1_reader_item_0da_FH 2 (ToldC.nil 2) (ref1_reader_item_0da_Cok r_ref1_reader_item_0da h_ref1_reader_item_0da) 15 ((joinsAt 15 (codeOf Tryz.f155)).headD .skip) (by kernel_rfl) (p := ref1_reader_item_0da_j15p) (px := ref1_reader_item_0da_j15x) (g := (ref1_reader_item_0da_j15 r_ref1_reader_item_0da)) (ho := { keep := [0, 1, 2, 3, 8, 9, 11, 12, 13] }) fun (x : ((Unit × Int × Bool × ByteArray × Unit × Int × Bool × Bool) × ((ByteArray × Int × Unit) × List PD × (Int × Int × ByteArray)))) => ref1_reader_item_0da_j15_s r_ref1_reader_item_0da x.1.2.1 x.1.2.2.1 x.1.2.2.2.1 x.1.2.2.2.2.2.1 x.1.2.2.2.2.2.2.1 x.1.2.2.2.2.2.2.2 x.2.1.1 x.2.1.2.1 x.2.2.1 x.2.2.2.1 x.2.2.2.2.1 x.2.2.2.2.2
theorem ref1_reader_item_0da_j11_s (r_ref1_reader_item_0da : Int → Bool → ByteArray → ByteArray → Int → (List PD) → Option (Int × ((ByteArray × Int × Unit) × Unit × List PD))) (a1 : Int) (a2 : Bool) (a3 : ByteArray) (a4 : Int) (a5 : Bool) (a6 : Bool) (a7 : ByteArray) (a8 : Int) (a9 : List PD) (a10 : Int) (a11 : Int) (a12 : ByteArray) : joinC Tryz.prog (ref1_reader_item_0da_C r_ref1_reader_item_0da) ref1_reader_item_0da_FH [] ((15, toldJ ref1_reader_item_0da_j15p ref1_reader_item_0da_j15x (ref1_reader_item_0da_j15 r_ref1_reader_item_0da)) :: []) 2 ((joinsAt 11 (codeOf Tryz.f155)).headD .skip) ref1_reader_item_0da_j11p ref1_reader_item_0da_j11x { keep := [0, 1, 2, 3, 8, 9, 11, 12, 13] } (((), a1, a2, a3, (), a4, a5, a6), ((a7, a8, ()), a9, (a10, a11, a12))) _ some = (ref1_reader_item_0da_j11 r_ref1_reader_item_0da) (((), a1, a2, a3, (), a4, a5, a6), ((a7, a8, ()), a9, (a10, a11, a12))) := by kernel_rfl
theorem ref1_reader_item_0da_j11_t (r_ref1_reader_item_0da : Int → Bool → ByteArray → ByteArray → Int → (List PD) → Option (Int × ((ByteArray × Int × Unit) × Unit × List PD))) (h_ref1_reader_item_0da : EntOK Tryz.prog 155 (ent ref1_reader_item_0da_P ref1_reader_item_0da_H ref1_reader_item_0da_R ref1_reader_item_0da_G (ref1_reader_item_0da_V r_ref1_reader_item_0da))) : ToldC Tryz.prog 2 (codeOf Tryz.f155) [] ((11, toldJ ref1_reader_item_0da_j11p ref1_reader_item_0da_j11x (ref1_reader_item_0da_j11 r_ref1_reader_item_0da)) :: ((15, toldJ ref1_reader_item_0da_j15p ref1_reader_item_0da_j15x (ref1_reader_item_0da_j15 r_ref1_reader_item_0da)) :: [])) :=
  ToldC.join ref1_reader_item_0da_FH 2 (ref1_reader_item_0da_j15_t r_ref1_reader_item_0da h_ref1_reader_item_0da) (ref1_reader_item_0da_Cok r_ref1_reader_item_0da h_ref1_reader_item_0da) 11 ((joinsAt 11 (codeOf Tryz.f155)).headD .skip) (by kernel_rfl) (p := ref1_reader_item_0da_j11p) (px := ref1_reader_item_0da_j11x) (g := (ref1_reader_item_0da_j11 r_ref1_reader_item_0da)) (ho := { keep := [0, 1, 2, 3, 8, 9, 11, 12, 13] }) fun (x : ((Unit × Int × Bool × ByteArray × Unit × Int × Bool × Bool) × ((ByteArray × Int × Unit) × List PD × (Int × Int × ByteArray)))) => ref1_reader_item_0da_j11_s r_ref1_reader_item_0da x.1.2.1 x.1.2.2.1 x.1.2.2.2.1 x.1.2.2.2.2.2.1 x.1.2.2.2.2.2.2.1 x.1.2.2.2.2.2.2.2 x.2.1.1 x.2.1.2.1 x.2.2.1 x.2.2.2.1 x.2.2.2.2.1 x.2.2.2.2.2
theorem ref1_reader_item_0da_l27_s (r_ref1_reader_item_0da : Int → Bool → ByteArray → ByteArray → Int → (List PD) → Option (Int × ((ByteArray × Int × Unit) × Unit × List PD))) (a1 : Int) (a2 : Int) (a3 : Bool) (a4 : ByteArray) (a5 : Int) (a6 : ByteArray) (a7 : Int) (a8 : List PD) (a9 : Int) (a10 : Int) (a11 : ByteArray) : stepC Tryz.prog (ref1_reader_item_0da_C r_ref1_reader_item_0da) ref1_reader_item_0da_FH [] ((11, toldJ ref1_reader_item_0da_j11p ref1_reader_item_0da_j11x (ref1_reader_item_0da_j11 r_ref1_reader_item_0da)) :: ((15, toldJ ref1_reader_item_0da_j15p ref1_reader_item_0da_j15x (ref1_reader_item_0da_j15 r_ref1_reader_item_0da)) :: [])) 2 ((loopsAt 27 (codeOf Tryz.f155)).headD .skip) ref1_reader_item_0da_l27p ref1_reader_item_0da_l27x { keep := [0, 1, 9, 11, 13, 14, 15] } { keep := [8] } (((), a1, (), a2, a3, a4, a5), ((a6, a7, ()), (), a8, (a9, a10, a11))) _ some = (ref1_reader_item_0da_l27 r_ref1_reader_item_0da) (((), a1, (), a2, a3, a4, a5), ((a6, a7, ()), (), a8, (a9, a10, a11))) := by kernel_rfl
theorem ref1_reader_item_0da_l27_t (r_ref1_reader_item_0da : Int → Bool → ByteArray → ByteArray → Int → (List PD) → Option (Int × ((ByteArray × Int × Unit) × Unit × List PD))) (h_ref1_reader_item_0da : EntOK Tryz.prog 155 (ent ref1_reader_item_0da_P ref1_reader_item_0da_H ref1_reader_item_0da_R ref1_reader_item_0da_G (ref1_reader_item_0da_V r_ref1_reader_item_0da))) : ToldC Tryz.prog 2 (codeOf Tryz.f155) ((27, toldL ref1_reader_item_0da_l27p ref1_reader_item_0da_l27x (ref1_reader_item_0da_l27 r_ref1_reader_item_0da)) :: []) ((11, toldJ ref1_reader_item_0da_j11p ref1_reader_item_0da_j11x (ref1_reader_item_0da_j11 r_ref1_reader_item_0da)) :: ((15, toldJ ref1_reader_item_0da_j15p ref1_reader_item_0da_j15x (ref1_reader_item_0da_j15 r_ref1_reader_item_0da)) :: [])) :=
  ToldC.loop ref1_reader_item_0da_FH 2 (ref1_reader_item_0da_j11_t r_ref1_reader_item_0da h_ref1_reader_item_0da) (ref1_reader_item_0da_Cok r_ref1_reader_item_0da h_ref1_reader_item_0da) 27 ((loopsAt 27 (codeOf Tryz.f155)).headD .skip) (by kernel_rfl) (p := ref1_reader_item_0da_l27p) (px := ref1_reader_item_0da_l27x) (g := (ref1_reader_item_0da_l27 r_ref1_reader_item_0da)) (hi := { keep := [0, 1, 9, 11, 13, 14, 15] }) (ho := { keep := [8] }) (by kernel_rfl) fun (x : ((Unit × Int × Unit × Int × Bool × ByteArray × Int) × ((ByteArray × Int × Unit) × Unit × List PD × (Int × Int × ByteArray)))) => ref1_reader_item_0da_l27_s r_ref1_reader_item_0da x.1.2.1 x.1.2.2.2.1 x.1.2.2.2.2.1 x.1.2.2.2.2.2.1 x.1.2.2.2.2.2.2 x.2.1.1 x.2.1.2.1 x.2.2.2.1 x.2.2.2.2.1 x.2.2.2.2.2.1 x.2.2.2.2.2.2
theorem ref1_reader_item_0da_j20_s (r_ref1_reader_item_0da : Int → Bool → ByteArray → ByteArray → Int → (List PD) → Option (Int × ((ByteArray × Int × Unit) × Unit × List PD))) (a1 : Int) (a2 : Bool) (a3 : ByteArray) (a4 : Int) (a5 : Bool) (a6 : ByteArray) (a7 : Int) (a8 : List PD) (a9 : Int) (a10 : Int) (a11 : ByteArray) : joinC Tryz.prog (ref1_reader_item_0da_C r_ref1_reader_item_0da) ref1_reader_item_0da_FH ((27, toldL ref1_reader_item_0da_l27p ref1_reader_item_0da_l27x (ref1_reader_item_0da_l27 r_ref1_reader_item_0da)) :: []) ((11, toldJ ref1_reader_item_0da_j11p ref1_reader_item_0da_j11x (ref1_reader_item_0da_j11 r_ref1_reader_item_0da)) :: ((15, toldJ ref1_reader_item_0da_j15p ref1_reader_item_0da_j15x (ref1_reader_item_0da_j15 r_ref1_reader_item_0da)) :: [])) 2 ((joinsAt 20 (codeOf Tryz.f155)).headD .skip) ref1_reader_item_0da_j20p ref1_reader_item_0da_j20x { keep := [8], mv := [(0, 2)] } (((), a1, a2, a3, (), a4, a5), ((a6, a7, ()), a8, (a9, a10, a11))) _ some = (ref1_reader_item_0da_j20 r_ref1_reader_item_0da) (((), a1, a2, a3, (), a4, a5), ((a6, a7, ()), a8, (a9, a10, a11))) := by kernel_rfl
theorem ref1_reader_item_0da_j20_t (r_ref1_reader_item_0da : Int → Bool → ByteArray → ByteArray → Int → (List PD) → Option (Int × ((ByteArray × Int × Unit) × Unit × List PD))) (h_ref1_reader_item_0da : EntOK Tryz.prog 155 (ent ref1_reader_item_0da_P ref1_reader_item_0da_H ref1_reader_item_0da_R ref1_reader_item_0da_G (ref1_reader_item_0da_V r_ref1_reader_item_0da))) : ToldC Tryz.prog 2 (codeOf Tryz.f155) ((27, toldL ref1_reader_item_0da_l27p ref1_reader_item_0da_l27x (ref1_reader_item_0da_l27 r_ref1_reader_item_0da)) :: []) ((20, toldJ ref1_reader_item_0da_j20p ref1_reader_item_0da_j20x (ref1_reader_item_0da_j20 r_ref1_reader_item_0da)) :: ((11, toldJ ref1_reader_item_0da_j11p ref1_reader_item_0da_j11x (ref1_reader_item_0da_j11 r_ref1_reader_item_0da)) :: ((15, toldJ ref1_reader_item_0da_j15p ref1_reader_item_0da_j15x (ref1_reader_item_0da_j15 r_ref1_reader_item_0da)) :: []))) :=
  ToldC.join ref1_reader_item_0da_FH 2 (ref1_reader_item_0da_l27_t r_ref1_reader_item_0da h_ref1_reader_item_0da) (ref1_reader_item_0da_Cok r_ref1_reader_item_0da h_ref1_reader_item_0da) 20 ((joinsAt 20 (codeOf Tryz.f155)).headD .skip) (by kernel_rfl) (p := ref1_reader_item_0da_j20p) (px := ref1_reader_item_0da_j20x) (g := (ref1_reader_item_0da_j20 r_ref1_reader_item_0da)) (ho := { keep := [8], mv := [(0, 2)] }) fun (x : ((Unit × Int × Bool × ByteArray × Unit × Int × Bool) × ((ByteArray × Int × Unit) × List PD × (Int × Int × ByteArray)))) => ref1_reader_item_0da_j20_s r_ref1_reader_item_0da x.1.2.1 x.1.2.2.1 x.1.2.2.2.1 x.1.2.2.2.2.2.1 x.1.2.2.2.2.2.2 x.2.1.1 x.2.1.2.1 x.2.2.1 x.2.2.2.1 x.2.2.2.2.1 x.2.2.2.2.2
theorem ref1_reader_item_0da_j7_s (r_ref1_reader_item_0da : Int → Bool → ByteArray → ByteArray → Int → (List PD) → Option (Int × ((ByteArray × Int × Unit) × Unit × List PD))) (a1 : Int) (a2 : Bool) (a3 : ByteArray) (a4 : Int) (a5 : Bool) (a6 : Bool) (a7 : ByteArray) (a8 : Int) (a9 : List PD) (a10 : Int) (a11 : Int) (a12 : ByteArray) : joinC Tryz.prog (ref1_reader_item_0da_C r_ref1_reader_item_0da) ref1_reader_item_0da_FH ((27, toldL ref1_reader_item_0da_l27p ref1_reader_item_0da_l27x (ref1_reader_item_0da_l27 r_ref1_reader_item_0da)) :: []) ((20, toldJ ref1_reader_item_0da_j20p ref1_reader_item_0da_j20x (ref1_reader_item_0da_j20 r_ref1_reader_item_0da)) :: ((11, toldJ ref1_reader_item_0da_j11p ref1_reader_item_0da_j11x (ref1_reader_item_0da_j11 r_ref1_reader_item_0da)) :: ((15, toldJ ref1_reader_item_0da_j15p ref1_reader_item_0da_j15x (ref1_reader_item_0da_j15 r_ref1_reader_item_0da)) :: []))) 2 ((joinsAt 7 (codeOf Tryz.f155)).headD .skip) ref1_reader_item_0da_j7p ref1_reader_item_0da_j7x { keep := [8], mv := [(0, 2)] } (((), a1, a2, a3, (), a4, a5, a6), ((a7, a8, ()), a9, (a10, a11, a12))) _ some = (ref1_reader_item_0da_j7 r_ref1_reader_item_0da) (((), a1, a2, a3, (), a4, a5, a6), ((a7, a8, ()), a9, (a10, a11, a12))) := by kernel_rfl
theorem ref1_reader_item_0da_j7_t (r_ref1_reader_item_0da : Int → Bool → ByteArray → ByteArray → Int → (List PD) → Option (Int × ((ByteArray × Int × Unit) × Unit × List PD))) (h_ref1_reader_item_0da : EntOK Tryz.prog 155 (ent ref1_reader_item_0da_P ref1_reader_item_0da_H ref1_reader_item_0da_R ref1_reader_item_0da_G (ref1_reader_item_0da_V r_ref1_reader_item_0da))) : ToldC Tryz.prog 2 (codeOf Tryz.f155) ((27, toldL ref1_reader_item_0da_l27p ref1_reader_item_0da_l27x (ref1_reader_item_0da_l27 r_ref1_reader_item_0da)) :: []) ((7, toldJ ref1_reader_item_0da_j7p ref1_reader_item_0da_j7x (ref1_reader_item_0da_j7 r_ref1_reader_item_0da)) :: ((20, toldJ ref1_reader_item_0da_j20p ref1_reader_item_0da_j20x (ref1_reader_item_0da_j20 r_ref1_reader_item_0da)) :: ((11, toldJ ref1_reader_item_0da_j11p ref1_reader_item_0da_j11x (ref1_reader_item_0da_j11 r_ref1_reader_item_0da)) :: ((15, toldJ ref1_reader_item_0da_j15p ref1_reader_item_0da_j15x (ref1_reader_item_0da_j15 r_ref1_reader_item_0da)) :: [])))) :=
  ToldC.join ref1_reader_item_0da_FH 2 (ref1_reader_item_0da_j20_t r_ref1_reader_item_0da h_ref1_reader_item_0da) (ref1_reader_item_0da_Cok r_ref1_reader_item_0da h_ref1_reader_item_0da) 7 ((joinsAt 7 (codeOf Tryz.f155)).headD .skip) (by kernel_rfl) (p := ref1_reader_item_0da_j7p) (px := ref1_reader_item_0da_j7x) (g := (ref1_reader_item_0da_j7 r_ref1_reader_item_0da)) (ho := { keep := [8], mv := [(0, 2)] }) fun (x : ((Unit × Int × Bool × ByteArray × Unit × Int × Bool × Bool) × ((ByteArray × Int × Unit) × List PD × (Int × Int × ByteArray)))) => ref1_reader_item_0da_j7_s r_ref1_reader_item_0da x.1.2.1 x.1.2.2.1 x.1.2.2.2.1 x.1.2.2.2.2.2.1 x.1.2.2.2.2.2.2.1 x.1.2.2.2.2.2.2.2 x.2.1.1 x.2.1.2.1 x.2.2.1 x.2.2.2.1 x.2.2.2.2.1 x.2.2.2.2.2
theorem ref1_reader_item_0da_j6_s (r_ref1_reader_item_0da : Int → Bool → ByteArray → ByteArray → Int → (List PD) → Option (Int × ((ByteArray × Int × Unit) × Unit × List PD))) (a1 : Int) (a2 : Bool) (a3 : ByteArray) (a4 : Int) (a5 : Bool) (a6 : ByteArray) (a7 : Int) (a8 : List PD) (a9 : Int) (a10 : Int) (a11 : ByteArray) : joinC Tryz.prog (ref1_reader_item_0da_C r_ref1_reader_item_0da) ref1_reader_item_0da_FH ((27, toldL ref1_reader_item_0da_l27p ref1_reader_item_0da_l27x (ref1_reader_item_0da_l27 r_ref1_reader_item_0da)) :: []) ((7, toldJ ref1_reader_item_0da_j7p ref1_reader_item_0da_j7x (ref1_reader_item_0da_j7 r_ref1_reader_item_0da)) :: ((20, toldJ ref1_reader_item_0da_j20p ref1_reader_item_0da_j20x (ref1_reader_item_0da_j20 r_ref1_reader_item_0da)) :: ((11, toldJ ref1_reader_item_0da_j11p ref1_reader_item_0da_j11x (ref1_reader_item_0da_j11 r_ref1_reader_item_0da)) :: ((15, toldJ ref1_reader_item_0da_j15p ref1_reader_item_0da_j15x (ref1_reader_item_0da_j15 r_ref1_reader_item_0da)) :: [])))) 2 ((joinsAt 6 (codeOf Tryz.f155)).headD .skip) ref1_reader_item_0da_j6p ref1_reader_item_0da_j6x { keep := [8] } (((), a1, a2, a3, (), a4, a5), ((a6, a7, ()), a8, (a9, a10, a11))) _ some = (ref1_reader_item_0da_j6 r_ref1_reader_item_0da) (((), a1, a2, a3, (), a4, a5), ((a6, a7, ()), a8, (a9, a10, a11))) := by kernel_rfl
theorem ref1_reader_item_0da_j6_t (r_ref1_reader_item_0da : Int → Bool → ByteArray → ByteArray → Int → (List PD) → Option (Int × ((ByteArray × Int × Unit) × Unit × List PD))) (h_ref1_reader_item_0da : EntOK Tryz.prog 155 (ent ref1_reader_item_0da_P ref1_reader_item_0da_H ref1_reader_item_0da_R ref1_reader_item_0da_G (ref1_reader_item_0da_V r_ref1_reader_item_0da))) : ToldC Tryz.prog 2 (codeOf Tryz.f155) ((27, toldL ref1_reader_item_0da_l27p ref1_reader_item_0da_l27x (ref1_reader_item_0da_l27 r_ref1_reader_item_0da)) :: []) ((6, toldJ ref1_reader_item_0da_j6p ref1_reader_item_0da_j6x (ref1_reader_item_0da_j6 r_ref1_reader_item_0da)) :: ((7, toldJ ref1_reader_item_0da_j7p ref1_reader_item_0da_j7x (ref1_reader_item_0da_j7 r_ref1_reader_item_0da)) :: ((20, toldJ ref1_reader_item_0da_j20p ref1_reader_item_0da_j20x (ref1_reader_item_0da_j20 r_ref1_reader_item_0da)) :: ((11, toldJ ref1_reader_item_0da_j11p ref1_reader_item_0da_j11x (ref1_reader_item_0da_j11 r_ref1_reader_item_0da)) :: ((15, toldJ ref1_reader_item_0da_j15p ref1_reader_item_0da_j15x (ref1_reader_item_0da_j15 r_ref1_reader_item_0da)) :: []))))) :=
  ToldC.join ref1_reader_item_0da_FH 2 (ref1_reader_item_0da_j7_t r_ref1_reader_item_0da h_ref1_reader_item_0da) (ref1_reader_item_0da_Cok r_ref1_reader_item_0da h_ref1_reader_item_0da) 6 ((joinsAt 6 (codeOf Tryz.f155)).headD .skip) (by kernel_rfl) (p := ref1_reader_item_0da_j6p) (px := ref1_reader_item_0da_j6x) (g := (ref1_reader_item_0da_j6 r_ref1_reader_item_0da)) (ho := { keep := [8] }) fun (x : ((Unit × Int × Bool × ByteArray × Unit × Int × Bool) × ((ByteArray × Int × Unit) × List PD × (Int × Int × ByteArray)))) => ref1_reader_item_0da_j6_s r_ref1_reader_item_0da x.1.2.1 x.1.2.2.1 x.1.2.2.2.1 x.1.2.2.2.2.2.1 x.1.2.2.2.2.2.2 x.2.1.1 x.2.1.2.1 x.2.2.1 x.2.2.2.1 x.2.2.2.2.1 x.2.2.2.2.2
theorem ref1_reader_item_0da_b (r_ref1_reader_item_0da : Int → Bool → ByteArray → ByteArray → Int → (List PD) → Option (Int × ((ByteArray × Int × Unit) × Unit × List PD))) (a1 : Int) (a2 : Bool) (a3 : ByteArray) (a4 : ByteArray) (a5 : Int) (a6 : List PD) : bodyC Tryz.prog (ref1_reader_item_0da_C r_ref1_reader_item_0da) ref1_reader_item_0da_FH ((27, toldL ref1_reader_item_0da_l27p ref1_reader_item_0da_l27x (ref1_reader_item_0da_l27 r_ref1_reader_item_0da)) :: []) ((6, toldJ ref1_reader_item_0da_j6p ref1_reader_item_0da_j6x (ref1_reader_item_0da_j6 r_ref1_reader_item_0da)) :: ((7, toldJ ref1_reader_item_0da_j7p ref1_reader_item_0da_j7x (ref1_reader_item_0da_j7 r_ref1_reader_item_0da)) :: ((20, toldJ ref1_reader_item_0da_j20p ref1_reader_item_0da_j20x (ref1_reader_item_0da_j20 r_ref1_reader_item_0da)) :: ((11, toldJ ref1_reader_item_0da_j11p ref1_reader_item_0da_j11x (ref1_reader_item_0da_j11 r_ref1_reader_item_0da)) :: ((15, toldJ ref1_reader_item_0da_j15p ref1_reader_item_0da_j15x (ref1_reader_item_0da_j15 r_ref1_reader_item_0da)) :: []))))) { keep := [], mv := [(0, 2)] } 155 ref1_reader_item_0da_P ref1_reader_item_0da_H ref1_reader_item_0da_R ref1_reader_item_0da_G (((), a1, a2, a3), ((a4, a5, ()), a6)) _ some = ref1_reader_item_0da_F r_ref1_reader_item_0da a1 a2 a3 a4 a5 a6 := by kernel_rfl
theorem ref1_reader_item_0da_Fok (r_ref1_reader_item_0da : Int → Bool → ByteArray → ByteArray → Int → (List PD) → Option (Int × ((ByteArray × Int × Unit) × Unit × List PD))) (h_ref1_reader_item_0da : EntOK Tryz.prog 155 (ent ref1_reader_item_0da_P ref1_reader_item_0da_H ref1_reader_item_0da_R ref1_reader_item_0da_G (ref1_reader_item_0da_V r_ref1_reader_item_0da))) : EntOK Tryz.prog 155 (ent ref1_reader_item_0da_P ref1_reader_item_0da_H ref1_reader_item_0da_R ref1_reader_item_0da_G (ref1_reader_item_0da_V (ref1_reader_item_0da_F r_ref1_reader_item_0da))) :=
  ent_ok ref1_reader_item_0da_FH (ref1_reader_item_0da_Cok r_ref1_reader_item_0da h_ref1_reader_item_0da) (hp := ref1_reader_item_0da_H) (fn := Tryz.f155) (by kernel_rfl) (ref1_reader_item_0da_j6_t r_ref1_reader_item_0da h_ref1_reader_item_0da) fun (x : ((Unit × Int × Bool × ByteArray) × ((ByteArray × Int × Unit) × List PD))) => ref1_reader_item_0da_b r_ref1_reader_item_0da x.1.2.1 x.1.2.2.1 x.1.2.2.2 x.2.1.1 x.2.1.2.1 x.2.2
theorem ref1_reader_item_0da_nok : ∀ n, EntOK Tryz.prog 155 (ent ref1_reader_item_0da_P ref1_reader_item_0da_H ref1_reader_item_0da_R ref1_reader_item_0da_G (ref1_reader_item_0da_V (ref1_reader_item_0da_n n)))
  | 0 => ent_of fun x y h => by cases h
  | n + 1 => ref1_reader_item_0da_Fok (ref1_reader_item_0da_n n) (ref1_reader_item_0da_nok n)
theorem ref1_reader_item_0da_ok : EntOK Tryz.prog 155 (ent ref1_reader_item_0da_P ref1_reader_item_0da_H ref1_reader_item_0da_R ref1_reader_item_0da_G (ref1_reader_item_0da_V (ref1_reader_item_0da))) := ref1_reader_item_0da_nok 40

/-! ref1_Decode: passkey/passkeyref1.Decode -/
noncomputable def ref1_Decode_j2p : SP := { n := 24, ix := [5], p := (.ptr 0 0), hp := [(.cells (.cons .str (.cons (.int .i64) (.ref 1)))), (.arrS 3 72 3)] }
noncomputable def ref1_Decode_j2x : List (Ex × SP) := [(.ret, { n := 24, ix := [2, 3, 4], p := (.cons (.ref 0) (.cons (.int .i64) (.int .i64))), hp := [(.arrS 3 72 3)] })]
noncomputable def ref1_Decode_P : Pt := (.nums .u8)
noncomputable def ref1_Decode_H : List Po := []
noncomputable def ref1_Decode_R : Pt := (.tup (.cons (.ref 0) (.cons (.int .i64) (.int .i64))))
noncomputable def ref1_Decode_G : List Po := [(.arrS 3 72 3)]
noncomputable def ref1_Decode_V (f : (List Int) → Option ((Unit × Int × Int) × List PD)) (x : List Int) : Option ((Unit × Int × Int) × List PD) := f x
noncomputable def ref1_Decode_C : Cal := tbl [(155, (ent ref1_reader_item_0da_P ref1_reader_item_0da_H ref1_reader_item_0da_R ref1_reader_item_0da_G (ref1_reader_item_0da_V (ref1_reader_item_0da))))]
theorem ref1_Decode_Cok : CalOK Tryz.prog ref1_Decode_C ∧ CalNt ref1_Decode_C := by
  unfold ref1_Decode_C
  exact tbl_ok (by
    intro p hp
    simp only [List.mem_cons, List.not_mem_nil, or_false] at hp
    rcases hp with rfl
    exact ref1_reader_item_0da_ok)
noncomputable def ref1_Decode_FH : FH := { join := [(2, { keep := [5], ownC := [(5, 2, 72)] })], see := [(5, [(3, [0]), (7, [0])])] }
theorem ref1_Decode_j2_s (a1 : ByteArray) (a2 : Int) (a3 : List PD) : joinC Tryz.prog ref1_Decode_C ref1_Decode_FH [] [] 0 ((joinsAt 2 (codeOf Tryz.f119)).headD .skip) ref1_Decode_j2p ref1_Decode_j2x { keep := [2, 3, 4], own := [(2, 72)] } ((), ((a1, a2, ()), a3)) _ some = ref1_Decode_j2 ((), ((a1, a2, ()), a3)) := by kernel_rfl
theorem ref1_Decode_j2_t : ToldC Tryz.prog 0 (codeOf Tryz.f119) [] ((2, toldJ ref1_Decode_j2p ref1_Decode_j2x ref1_Decode_j2) :: []) :=
  ToldC.join ref1_Decode_FH 0 (ToldC.nil 0) ref1_Decode_Cok 2 ((joinsAt 2 (codeOf Tryz.f119)).headD .skip) (by kernel_rfl) (p := ref1_Decode_j2p) (px := ref1_Decode_j2x) (g := ref1_Decode_j2) (ho := { keep := [2, 3, 4], own := [(2, 72)] }) fun (x : (Unit × ((ByteArray × Int × Unit) × List PD))) => ref1_Decode_j2_s x.2.1.1 x.2.1.2.1 x.2.2
theorem ref1_Decode_b (a1 : List Int) : bodyC Tryz.prog ref1_Decode_C ref1_Decode_FH [] ((2, toldJ ref1_Decode_j2p ref1_Decode_j2x ref1_Decode_j2) :: []) { keep := [] } 119 ref1_Decode_P ref1_Decode_H ref1_Decode_R ref1_Decode_G a1 _ some = ref1_Decode a1 := by kernel_rfl
theorem ref1_Decode_ok : EntOK Tryz.prog 119 (ent ref1_Decode_P ref1_Decode_H ref1_Decode_R ref1_Decode_G (ref1_Decode_V (ref1_Decode))) :=
  ent_ok ref1_Decode_FH ref1_Decode_Cok (hp := ref1_Decode_H) (fn := Tryz.f119) (by kernel_rfl) ref1_Decode_j2_t fun (x : List Int) => ref1_Decode_b x

/-! ref14_small: passkey/passkeyref14.small -/
noncomputable def ref14_small_P : Pt := (.int .u64)
noncomputable def ref14_small_H : List Po := []
noncomputable def ref14_small_R : Pt := (.int .i64)
noncomputable def ref14_small_G : List Po := []
noncomputable def ref14_small_V (f : Int → Option Int) (x : Int) : Option Int := f x
noncomputable def ref14_small_C : Cal := tbl []
theorem ref14_small_Cok : CalOK Tryz.prog ref14_small_C ∧ CalNt ref14_small_C := by
  unfold ref14_small_C
  exact tbl_ok (by intro p hp; simp at hp)
noncomputable def ref14_small_FH : FH := {}
theorem ref14_small_b (a1 : Int) : bodyC Tryz.prog ref14_small_C ref14_small_FH [] [] { keep := [] } 120 ref14_small_P ref14_small_H ref14_small_R ref14_small_G a1 _ some = ref14_small a1 := by kernel_rfl
theorem ref14_small_ok : EntOK Tryz.prog 120 (ent ref14_small_P ref14_small_H ref14_small_R ref14_small_G (ref14_small_V (ref14_small))) :=
  ent_ok ref14_small_FH ref14_small_Cok (hp := ref14_small_H) (fn := Tryz.f120) (by kernel_rfl) (ToldC.nil 0) fun (x : Int) => ref14_small_b x

/-! ref14_read: passkey/passkeyref14.read -/
noncomputable def ref14_read_j3p : SP := { n := 84, ix := [2], p := (.ptr 0 0), hp := [(.cells (.cons .str (.cons .str (.cons .str (.cons (.int .u64) (.cons (.int .i64) (.cons .bool (.cons (.int .i64) (.cons .bool .bool)))))))))] }
noncomputable def ref14_read_j3x : List (Ex × SP) := [(.ret, { n := 84, ix := [2, 3, 4], p := (.cons (.ptr 0 0) (.cons (.int .i64) .bool)), hp := [(.cells (.cons .str (.cons .str (.cons .str (.cons (.int .u64) (.cons (.int .i64) (.cons .bool (.cons (.int .i64) (.cons .bool .bool)))))))))] })]
noncomputable def ref14_read_P : Pt := (.nums .u8)
noncomputable def ref14_read_H : List Po := []
noncomputable def ref14_read_R : Pt := (.tup (.cons (.agg (.cons .str (.cons .str (.cons .str (.cons (.int .u64) (.cons (.int .i64) (.cons .bool (.cons (.int .i64) (.cons .bool .bool))))))))) (.cons (.int .i64) .bool)))
noncomputable def ref14_read_G : List Po := []
noncomputable def ref14_read_V (f : (List Int) → Option ((ByteArray × ByteArray × ByteArray × Int × Int × Bool × Int × Bool × Bool) × Int × Bool)) (x : List Int) : Option ((ByteArray × ByteArray × ByteArray × Int × Int × Bool × Int × Bool × Bool) × Int × Bool) := f x
noncomputable def ref14_read_C : Cal := tbl [(119, (ent ref1_Decode_P ref1_Decode_H ref1_Decode_R ref1_Decode_G (ref1_Decode_V (ref1_Decode)))), (120, (ent ref14_small_P ref14_small_H ref14_small_R ref14_small_G (ref14_small_V (ref14_small)))), (14, (ent ref14_EncodeCredential_P ref14_EncodeCredential_H ref14_EncodeCredential_R ref14_EncodeCredential_G (ref14_EncodeCredential_V (ref14_EncodeCredential))))]
theorem ref14_read_Cok : CalOK Tryz.prog ref14_read_C ∧ CalNt ref14_read_C := by
  unfold ref14_read_C
  exact tbl_ok (by
    intro p hp
    simp only [List.mem_cons, List.not_mem_nil, or_false] at hp
    rcases hp with rfl | rfl | rfl
    · exact ref1_Decode_ok
    · exact ref14_small_ok
    · exact ref14_EncodeCredential_ok)
noncomputable def ref14_read_FH : FH := { join := [(3, { keep := [2] })], see := [(4, [(1, [1]), (3, [1]), (5, [1]), (7, [1]), (9, [1]), (11, [1]), (13, [1]), (15, [1]), (17, [1]), (19, [1]), (20, []), (22, [1]), (24, [1]), (27, [1]), (29, [1]), (30, []), (32, [1]), (34, [1]), (37, [1]), (39, [1]), (42, [])]), (6, [(0, [338]), (6, [354]), (9, []), (10, []), (13, [0])])] }
theorem ref14_read_j3_s (a1 : ByteArray) (a2 : ByteArray) (a3 : ByteArray) (a4 : Int) (a5 : Int) (a6 : Bool) (a7 : Int) (a8 : Bool) (a9 : Bool) : joinC Tryz.prog ref14_read_C ref14_read_FH [] [] 0 ((joinsAt 3 (codeOf Tryz.f81)).headD .skip) ref14_read_j3p ref14_read_j3x { keep := [0, 2, 3, 4, 5, 6] } ((), (a1, a2, a3, a4, a5, a6, a7, a8, a9)) _ some = ref14_read_j3 ((), (a1, a2, a3, a4, a5, a6, a7, a8, a9)) := by kernel_rfl
theorem ref14_read_j3_t : ToldC Tryz.prog 0 (codeOf Tryz.f81) [] ((3, toldJ ref14_read_j3p ref14_read_j3x ref14_read_j3) :: []) :=
  ToldC.join ref14_read_FH 0 (ToldC.nil 0) ref14_read_Cok 3 ((joinsAt 3 (codeOf Tryz.f81)).headD .skip) (by kernel_rfl) (p := ref14_read_j3p) (px := ref14_read_j3x) (g := ref14_read_j3) (ho := { keep := [0, 2, 3, 4, 5, 6] }) fun (x : (Unit × (ByteArray × ByteArray × ByteArray × Int × Int × Bool × Int × Bool × Bool))) => ref14_read_j3_s x.2.1 x.2.2.1 x.2.2.2.1 x.2.2.2.2.1 x.2.2.2.2.2.1 x.2.2.2.2.2.2.1 x.2.2.2.2.2.2.2.1 x.2.2.2.2.2.2.2.2.1 x.2.2.2.2.2.2.2.2.2
theorem ref14_read_b (a1 : List Int) : bodyC Tryz.prog ref14_read_C ref14_read_FH [] ((3, toldJ ref14_read_j3p ref14_read_j3x ref14_read_j3) :: []) { keep := [] } 81 ref14_read_P ref14_read_H ref14_read_R ref14_read_G a1 _ some = ref14_read a1 := by kernel_rfl
theorem ref14_read_ok : EntOK Tryz.prog 81 (ent ref14_read_P ref14_read_H ref14_read_R ref14_read_G (ref14_read_V (ref14_read))) :=
  ent_ok ref14_read_FH ref14_read_Cok (hp := ref14_read_H) (fn := Tryz.f81) (by kernel_rfl) ref14_read_j3_t fun (x : List Int) => ref14_read_b x

/-! ref14_Unwrap: passkey/passkeyref14.Unwrap -/
noncomputable def ref14_Unwrap_j9p : SP := { n := 67, ix := [1, 6, 8, 10, 12, 13], p := (.cons .str (.cons (.ptr 0 0) (.cons (.ref 1) (.cons (.ptr 2 0) (.cons .bool (.int .i64)))))), hp := [(.cells (.cons .str (.cons .str (.cons .str (.cons (.int .u64) (.cons (.int .i64) (.cons .bool (.cons (.int .i64) (.cons .bool .bool))))))))), (.arrN 1 5 .u8), (.cells (.cons .str (.cons .str (.cons .str (.cons (.int .u64) (.cons (.int .i64) (.cons .bool (.cons (.int .i64) (.cons .bool .bool)))))))))] }
noncomputable def ref14_Unwrap_j9x : List (Ex × SP) := [(.norm, { n := 67, ix := [1, 6, 8, 10, 12, 13], p := (.cons .str (.cons (.ptr 0 0) (.cons (.ref 1) (.cons (.ptr 2 0) (.cons .bool (.int .i64)))))), hp := [(.cells (.cons .str (.cons .str (.cons .str (.cons (.int .u64) (.cons (.int .i64) (.cons .bool (.cons (.int .i64) (.cons .bool .bool))))))))), (.arrN 1 5 .u8), (.cells (.cons .str (.cons .str (.cons .str (.cons (.int .u64) (.cons (.int .i64) (.cons .bool (.cons (.int .i64) (.cons .bool .bool)))))))))] })]
noncomputable def ref14_Unwrap_l8p : SP := { n := 67, ix := [1, 6, 8, 10, 12, 13], p := (.cons .str (.cons (.ptr 0 0) (.cons (.ref 1) (.cons (.ptr 2 0) (.cons .bool (.int .i64)))))), hp := [(.cells (.cons .str (.cons .str (.cons .str (.cons (.int .u64) (.cons (.int .i64) (.cons .bool (.cons (.int .i64) (.cons .bool .bool))))))))), (.arrN 1 5 .u8), (.cells (.cons .str (.cons .str (.cons .str (.cons (.int .u64) (.cons (.int .i64) (.cons .bool (.cons (.int .i64) (.cons .bool .bool)))))))))] }
noncomputable def ref14_Unwrap_l8x : List (Ex × SP) := [((.exit 0), { n := 67, ix := [1, 6, 10, 12], p := (.cons .str (.cons (.ptr 0 0) (.cons (.ptr 1 0) .bool))), hp := [(.cells (.cons .str (.cons .str (.cons .str (.cons (.int .u64) (.cons (.int .i64) (.cons .bool (.cons (.int .i64) (.cons .bool .bool))))))))), (.cells (.cons .str (.cons .str (.cons .str (.cons (.int .u64) (.cons (.int .i64) (.cons .bool (.cons (.int .i64) (.cons .bool .bool)))))))))] })]
noncomputable def ref14_Unwrap_P : Pt := (.cons (.int .u64) (.cons .str (.nums .u8)))
noncomputable def ref14_Unwrap_H : List Po := []
noncomputable def ref14_Unwrap_R : Pt := (.tup (.cons (.agg (.cons .str (.cons .str (.cons .str (.cons (.int .u64) (.cons (.int .i64) (.cons .bool (.cons (.int .i64) (.cons .bool .bool))))))))) (.int .i64)))
noncomputable def ref14_Unwrap_G : List Po := []
noncomputable def ref14_Unwrap_V (f : Int → ByteArray → (List Int) → Option ((ByteArray × ByteArray × ByteArray × Int × Int × Bool × Int × Bool × Bool) × Int)) (x : (Int × ByteArray × List Int)) : Option ((ByteArray × ByteArray × ByteArray × Int × Int × Bool × Int × Bool × Bool) × Int) := f x.1 x.2.1 x.2.2
noncomputable def ref14_Unwrap_C : Cal := tbl [(52, (ent ref14_wrapKey_P ref14_wrapKey_H ref14_wrapKey_R ref14_wrapKey_G (ref14_wrapKey_V (ref14_wrapKey)))), (21, (ent ref14_RPHash_P ref14_RPHash_H ref14_RPHash_R ref14_RPHash_G (ref14_RPHash_V (ref14_RPHash)))), (20, (ent ref1_Words_P ref1_Words_H ref1_Words_R ref1_Words_G (ref1_Words_V (ref1_Words)))), (80, (ent ref3_Open_P ref3_Open_H ref3_Open_R ref3_Open_G (ref3_Open_V (ref3_Open)))), (81, (ent ref14_read_P ref14_read_H ref14_read_R ref14_read_G (ref14_read_V (ref14_read))))]
theorem ref14_Unwrap_Cok : CalOK Tryz.prog ref14_Unwrap_C ∧ CalNt ref14_Unwrap_C := by
  unfold ref14_Unwrap_C
  exact tbl_ok (by
    intro p hp
    simp only [List.mem_cons, List.not_mem_nil, or_false] at hp
    rcases hp with rfl | rfl | rfl | rfl | rfl
    · exact ref14_wrapKey_ok
    · exact ref14_RPHash_ok
    · exact ref1_Words_ok
    · exact ref3_Open_ok
    · exact ref14_read_ok)
noncomputable def ref14_Unwrap_FH : FH := { join := [(9, { keep := [1, 6, 8, 10, 12, 13] })], loops := [(8, { keep := [1, 6, 8, 10, 12, 13] }, { keep := [1, 6, 7, 10, 12] })], ops := [(3, [(5, .borrow), (7, .borrow)]), (6, [(1, .borrow)])] }
theorem ref14_Unwrap_j9_s (a1 : ByteArray) (a2 : Bool) (a3 : Int) (a4 : ByteArray) (a5 : ByteArray) (a6 : ByteArray) (a7 : Int) (a8 : Int) (a9 : Bool) (a10 : Int) (a11 : Bool) (a12 : Bool) (a13 : List Int) (a14 : ByteArray) (a15 : ByteArray) (a16 : ByteArray) (a17 : Int) (a18 : Int) (a19 : Bool) (a20 : Int) (a21 : Bool) (a22 : Bool) : joinC Tryz.prog ref14_Unwrap_C ref14_Unwrap_FH [] [] 0 ((joinsAt 9 (codeOf Tryz.f57)).headD .skip) ref14_Unwrap_j9p ref14_Unwrap_j9x { keep := [1, 6, 7, 8, 10, 12, 13] } ((a1, (), (), (), a2, a3), ((a4, a5, a6, a7, a8, a9, a10, a11, a12), a13, (a14, a15, a16, a17, a18, a19, a20, a21, a22))) _ some = ref14_Unwrap_j9 ((a1, (), (), (), a2, a3), ((a4, a5, a6, a7, a8, a9, a10, a11, a12), a13, (a14, a15, a16, a17, a18, a19, a20, a21, a22))) := by kernel_rfl
theorem ref14_Unwrap_j9_t : ToldC Tryz.prog 0 (codeOf Tryz.f57) [] ((9, toldJ ref14_Unwrap_j9p ref14_Unwrap_j9x ref14_Unwrap_j9) :: []) :=
  ToldC.join ref14_Unwrap_FH 0 (ToldC.nil 0) ref14_Unwrap_Cok 9 ((joinsAt 9 (codeOf Tryz.f57)).headD .skip) (by kernel_rfl) (p := ref14_Unwrap_j9p) (px := ref14_Unwrap_j9x) (g := ref14_Unwrap_j9) (ho := { keep := [1, 6, 7, 8, 10, 12, 13] }) fun (x : ((ByteArray × Unit × Unit × Unit × Bool × Int) × ((ByteArray × ByteArray × ByteArray × Int × Int × Bool × Int × Bool × Bool) × List Int × (ByteArray × ByteArray × ByteArray × Int × Int × Bool × Int × Bool × Bool)))) => ref14_Unwrap_j9_s x.1.1 x.1.2.2.2.2.1 x.1.2.2.2.2.2 x.2.1.1 x.2.1.2.1 x.2.1.2.2.1 x.2.1.2.2.2.1 x.2.1.2.2.2.2.1 x.2.1.2.2.2.2.2.1 x.2.1.2.2.2.2.2.2.1 x.2.1.2.2.2.2.2.2.2.1 x.2.1.2.2.2.2.2.2.2.2 x.2.2.1 x.2.2.2.1 x.2.2.2.2.1 x.2.2.2.2.2.1 x.2.2.2.2.2.2.1 x.2.2.2.2.2.2.2.1 x.2.2.2.2.2.2.2.2.1 x.2.2.2.2.2.2.2.2.2.1 x.2.2.2.2.2.2.2.2.2.2.1 x.2.2.2.2.2.2.2.2.2.2.2
theorem ref14_Unwrap_l8_s (a1 : ByteArray) (a2 : Bool) (a3 : Int) (a4 : ByteArray) (a5 : ByteArray) (a6 : ByteArray) (a7 : Int) (a8 : Int) (a9 : Bool) (a10 : Int) (a11 : Bool) (a12 : Bool) (a13 : List Int) (a14 : ByteArray) (a15 : ByteArray) (a16 : ByteArray) (a17 : Int) (a18 : Int) (a19 : Bool) (a20 : Int) (a21 : Bool) (a22 : Bool) : stepC Tryz.prog ref14_Unwrap_C ref14_Unwrap_FH [] ((9, toldJ ref14_Unwrap_j9p ref14_Unwrap_j9x ref14_Unwrap_j9) :: []) 0 ((loopsAt 8 (codeOf Tryz.f57)).headD .skip) ref14_Unwrap_l8p ref14_Unwrap_l8x { keep := [1, 6, 8, 10, 12, 13] } { keep := [1, 6, 7, 10, 12] } ((a1, (), (), (), a2, a3), ((a4, a5, a6, a7, a8, a9, a10, a11, a12), a13, (a14, a15, a16, a17, a18, a19, a20, a21, a22))) _ some = ref14_Unwrap_l8 ((a1, (), (), (), a2, a3), ((a4, a5, a6, a7, a8, a9, a10, a11, a12), a13, (a14, a15, a16, a17, a18, a19, a20, a21, a22))) := by kernel_rfl
theorem ref14_Unwrap_l8_t : ToldC Tryz.prog 0 (codeOf Tryz.f57) ((8, toldL ref14_Unwrap_l8p ref14_Unwrap_l8x ref14_Unwrap_l8) :: []) ((9, toldJ ref14_Unwrap_j9p ref14_Unwrap_j9x ref14_Unwrap_j9) :: []) :=
  ToldC.loop ref14_Unwrap_FH 0 ref14_Unwrap_j9_t ref14_Unwrap_Cok 8 ((loopsAt 8 (codeOf Tryz.f57)).headD .skip) (by kernel_rfl) (p := ref14_Unwrap_l8p) (px := ref14_Unwrap_l8x) (g := ref14_Unwrap_l8) (hi := { keep := [1, 6, 8, 10, 12, 13] }) (ho := { keep := [1, 6, 7, 10, 12] }) (by kernel_rfl) fun (x : ((ByteArray × Unit × Unit × Unit × Bool × Int) × ((ByteArray × ByteArray × ByteArray × Int × Int × Bool × Int × Bool × Bool) × List Int × (ByteArray × ByteArray × ByteArray × Int × Int × Bool × Int × Bool × Bool)))) => ref14_Unwrap_l8_s x.1.1 x.1.2.2.2.2.1 x.1.2.2.2.2.2 x.2.1.1 x.2.1.2.1 x.2.1.2.2.1 x.2.1.2.2.2.1 x.2.1.2.2.2.2.1 x.2.1.2.2.2.2.2.1 x.2.1.2.2.2.2.2.2.1 x.2.1.2.2.2.2.2.2.2.1 x.2.1.2.2.2.2.2.2.2.2 x.2.2.1 x.2.2.2.1 x.2.2.2.2.1 x.2.2.2.2.2.1 x.2.2.2.2.2.2.1 x.2.2.2.2.2.2.2.1 x.2.2.2.2.2.2.2.2.1 x.2.2.2.2.2.2.2.2.2.1 x.2.2.2.2.2.2.2.2.2.2.1 x.2.2.2.2.2.2.2.2.2.2.2
theorem ref14_Unwrap_b (a1 : Int) (a2 : ByteArray) (a3 : List Int) : bodyC Tryz.prog ref14_Unwrap_C ref14_Unwrap_FH ((8, toldL ref14_Unwrap_l8p ref14_Unwrap_l8x ref14_Unwrap_l8) :: []) ((9, toldJ ref14_Unwrap_j9p ref14_Unwrap_j9x ref14_Unwrap_j9) :: []) { keep := [] } 57 ref14_Unwrap_P ref14_Unwrap_H ref14_Unwrap_R ref14_Unwrap_G (a1, a2, a3) _ some = ref14_Unwrap a1 a2 a3 := by kernel_rfl
theorem ref14_Unwrap_ok : EntOK Tryz.prog 57 (ent ref14_Unwrap_P ref14_Unwrap_H ref14_Unwrap_R ref14_Unwrap_G (ref14_Unwrap_V (ref14_Unwrap))) :=
  ent_ok ref14_Unwrap_FH ref14_Unwrap_Cok (hp := ref14_Unwrap_H) (fn := Tryz.f57) (by kernel_rfl) ref14_Unwrap_l8_t fun (x : (Int × ByteArray × List Int)) => ref14_Unwrap_b x.1 x.2.1 x.2.2

/-! law15_unwraps: passkey/passkeylaw15.unwraps -/
noncomputable def law15_unwraps_P : Pt := (.cons (.int .u64) (.cons .str (.nums .u8)))
noncomputable def law15_unwraps_H : List Po := []
noncomputable def law15_unwraps_R : Pt := .bool
noncomputable def law15_unwraps_G : List Po := []
noncomputable def law15_unwraps_V (f : Int → ByteArray → (List Int) → Option Bool) (x : (Int × ByteArray × List Int)) : Option Bool := f x.1 x.2.1 x.2.2
noncomputable def law15_unwraps_C : Cal := tbl [(25, (ent credential_Unwrap_P credential_Unwrap_H credential_Unwrap_R credential_Unwrap_G (credential_Unwrap_V (credential_Unwrap)))), (57, (ent ref14_Unwrap_P ref14_Unwrap_H ref14_Unwrap_R ref14_Unwrap_G (ref14_Unwrap_V (ref14_Unwrap))))]
theorem law15_unwraps_Cok : CalOK Tryz.prog law15_unwraps_C ∧ CalNt law15_unwraps_C := by
  unfold law15_unwraps_C
  exact tbl_ok (by
    intro p hp
    simp only [List.mem_cons, List.not_mem_nil, or_false] at hp
    rcases hp with rfl | rfl
    · exact credential_Unwrap_ok
    · exact ref14_Unwrap_ok)
noncomputable def law15_unwraps_FH : FH := {}
theorem law15_unwraps_b (a1 : Int) (a2 : ByteArray) (a3 : List Int) : bodyC Tryz.prog law15_unwraps_C law15_unwraps_FH [] [] { keep := [] } 22 law15_unwraps_P law15_unwraps_H law15_unwraps_R law15_unwraps_G (a1, a2, a3) _ some = law15_unwraps a1 a2 a3 := by kernel_rfl
theorem law15_unwraps_ok : EntOK Tryz.prog 22 (ent law15_unwraps_P law15_unwraps_H law15_unwraps_R law15_unwraps_G (law15_unwraps_V (law15_unwraps))) :=
  ent_ok law15_unwraps_FH law15_unwraps_Cok (hp := law15_unwraps_H) (fn := Tryz.f22) (by kernel_rfl) (ToldC.nil 0) fun (x : (Int × ByteArray × List Int)) => law15_unwraps_b x.1 x.2.1 x.2.2

/-! law15_CredentialUnwraps: passkey/passkeylaw15.CredentialUnwraps -/
noncomputable def law15_CredentialUnwraps_j13p : SP := { n := 138, ix := [0, 1, 3, 6, 15, 16, 18, 20], p := (.cons (.int .u64) (.cons (.int .u64) (.cons (.int .i64) (.cons (.nums .u8) (.cons (.ptr 0 0) (.cons (.ref 1) (.cons (.ref 2) (.ref 3)))))))), hp := [(.cells (.cons .str (.cons .str (.cons .str (.cons (.int .u64) (.cons (.int .i64) (.cons .bool (.cons (.int .i64) (.cons .bool .bool))))))))), (.arrN 1 5 .u8), (.arrN 1 5 .u8), (.arrN 1 5 .u8)] }
noncomputable def law15_CredentialUnwraps_j13x : List (Ex × SP) := [(.ret, { n := 138, ix := [14], p := .bool })]
noncomputable def law15_CredentialUnwraps_P : Pt := (.cons (.int .u64) (.cons (.int .u64) (.cons (.int .i64) (.cons (.int .i64) (.cons (.int .i64) (.cons (.int .u8) (.nums .u8)))))))
noncomputable def law15_CredentialUnwraps_H : List Po := []
noncomputable def law15_CredentialUnwraps_R : Pt := .bool
noncomputable def law15_CredentialUnwraps_G : List Po := []
noncomputable def law15_CredentialUnwraps_V (f : Int → Int → Int → Int → Int → Int → (List Int) → Option Bool) (x : (Int × Int × Int × Int × Int × Int × List Int)) : Option Bool := f x.1 x.2.1 x.2.2.1 x.2.2.2.1 x.2.2.2.2.1 x.2.2.2.2.2.1 x.2.2.2.2.2.2
noncomputable def law15_CredentialUnwraps_C : Cal := tbl [(10, (ent law15_awake_P law15_awake_H law15_awake_R law15_awake_G (law15_awake_V (law15_awake)))), (12, (ent base_Credential_P base_Credential_H base_Credential_R base_Credential_G (base_Credential_V (base_Credential)))), (17, (ent ref14_ID_P ref14_ID_H ref14_ID_R ref14_ID_G (ref14_ID_V (ref14_ID)))), (14, (ent ref14_EncodeCredential_P ref14_EncodeCredential_H ref14_EncodeCredential_R ref14_EncodeCredential_G (ref14_EncodeCredential_V (ref14_EncodeCredential)))), (18, (ent ref1_Derive_P ref1_Derive_H ref1_Derive_R ref1_Derive_G (ref1_Derive_V (ref1_Derive)))), (21, (ent ref14_RPHash_P ref14_RPHash_H ref14_RPHash_R ref14_RPHash_G (ref14_RPHash_V (ref14_RPHash)))), (20, (ent ref1_Words_P ref1_Words_H ref1_Words_R ref1_Words_G (ref1_Words_V (ref1_Words)))), (19, (ent ref3_Seal_P ref3_Seal_H ref3_Seal_R ref3_Seal_G (ref3_Seal_V (ref3_Seal)))), (22, (ent law15_unwraps_P law15_unwraps_H law15_unwraps_R law15_unwraps_G (law15_unwraps_V (law15_unwraps)))), (23, (ent base_RP_P base_RP_H base_RP_R base_RP_G (base_RP_V (base_RP))))]
theorem law15_CredentialUnwraps_Cok : CalOK Tryz.prog law15_CredentialUnwraps_C ∧ CalNt law15_CredentialUnwraps_C := by
  unfold law15_CredentialUnwraps_C
  exact tbl_ok (by
    intro p hp
    simp only [List.mem_cons, List.not_mem_nil, or_false] at hp
    rcases hp with rfl | rfl | rfl | rfl | rfl | rfl | rfl | rfl | rfl | rfl
    · exact law15_awake_ok
    · exact base_Credential_ok
    · exact ref14_ID_ok
    · exact ref14_EncodeCredential_ok
    · exact ref1_Derive_ok
    · exact ref14_RPHash_ok
    · exact ref1_Words_ok
    · exact ref3_Seal_ok
    · exact law15_unwraps_ok
    · exact base_RP_ok)
noncomputable def law15_CredentialUnwraps_FH : FH := { join := [(13, { keep := [0, 1, 3, 6, 15, 16, 18, 20] })], ops := [(14, [(6, .borrow), (8, .borrow)]), (15, [(4, .borrow), (10, .borrow), (25, .borrow), (32, .borrow), (39, .borrow)])] }
theorem law15_CredentialUnwraps_j13_s (a1 : Int) (a2 : Int) (a3 : Int) (a4 : List Int) (a5 : ByteArray) (a6 : ByteArray) (a7 : ByteArray) (a8 : Int) (a9 : Int) (a10 : Bool) (a11 : Int) (a12 : Bool) (a13 : Bool) (a14 : List Int) (a15 : List Int) (a16 : List Int) : joinC Tryz.prog law15_CredentialUnwraps_C law15_CredentialUnwraps_FH [] [] 0 ((joinsAt 13 (codeOf Tryz.f4)).headD .skip) law15_CredentialUnwraps_j13p law15_CredentialUnwraps_j13x { keep := [14] } ((a1, a2, a3, a4, (), (), (), ()), ((a5, a6, a7, a8, a9, a10, a11, a12, a13), a14, a15, a16)) _ some = law15_CredentialUnwraps_j13 ((a1, a2, a3, a4, (), (), (), ()), ((a5, a6, a7, a8, a9, a10, a11, a12, a13), a14, a15, a16)) := by kernel_rfl
theorem law15_CredentialUnwraps_j13_t : ToldC Tryz.prog 0 (codeOf Tryz.f4) [] ((13, toldJ law15_CredentialUnwraps_j13p law15_CredentialUnwraps_j13x law15_CredentialUnwraps_j13) :: []) :=
  ToldC.join law15_CredentialUnwraps_FH 0 (ToldC.nil 0) law15_CredentialUnwraps_Cok 13 ((joinsAt 13 (codeOf Tryz.f4)).headD .skip) (by kernel_rfl) (p := law15_CredentialUnwraps_j13p) (px := law15_CredentialUnwraps_j13x) (g := law15_CredentialUnwraps_j13) (ho := { keep := [14] }) fun (x : ((Int × Int × Int × List Int × Unit × Unit × Unit × Unit) × ((ByteArray × ByteArray × ByteArray × Int × Int × Bool × Int × Bool × Bool) × List Int × List Int × List Int))) => law15_CredentialUnwraps_j13_s x.1.1 x.1.2.1 x.1.2.2.1 x.1.2.2.2.1 x.2.1.1 x.2.1.2.1 x.2.1.2.2.1 x.2.1.2.2.2.1 x.2.1.2.2.2.2.1 x.2.1.2.2.2.2.2.1 x.2.1.2.2.2.2.2.2.1 x.2.1.2.2.2.2.2.2.2.1 x.2.1.2.2.2.2.2.2.2.2 x.2.2.1 x.2.2.2.1 x.2.2.2.2
theorem law15_CredentialUnwraps_b (a1 : Int) (a2 : Int) (a3 : Int) (a4 : Int) (a5 : Int) (a6 : Int) (a7 : List Int) : bodyC Tryz.prog law15_CredentialUnwraps_C law15_CredentialUnwraps_FH [] ((13, toldJ law15_CredentialUnwraps_j13p law15_CredentialUnwraps_j13x law15_CredentialUnwraps_j13) :: []) { keep := [] } 4 law15_CredentialUnwraps_P law15_CredentialUnwraps_H law15_CredentialUnwraps_R law15_CredentialUnwraps_G (a1, a2, a3, a4, a5, a6, a7) _ some = law15_CredentialUnwraps a1 a2 a3 a4 a5 a6 a7 := by kernel_rfl
theorem law15_CredentialUnwraps_ok : EntOK Tryz.prog 4 (ent law15_CredentialUnwraps_P law15_CredentialUnwraps_H law15_CredentialUnwraps_R law15_CredentialUnwraps_G (law15_CredentialUnwraps_V (law15_CredentialUnwraps))) :=
  ent_ok law15_CredentialUnwraps_FH law15_CredentialUnwraps_Cok (hp := law15_CredentialUnwraps_H) (fn := Tryz.f4) (by kernel_rfl) law15_CredentialUnwraps_j13_t fun (x : (Int × Int × Int × Int × Int × Int × List Int)) => law15_CredentialUnwraps_b x.1 x.2.1 x.2.2.1 x.2.2.2.1 x.2.2.2.2.1 x.2.2.2.2.2.1 x.2.2.2.2.2.2

/-! law15_CredentialBack: passkey/passkeylaw15.CredentialBack -/
noncomputable def law15_CredentialBack_P : Pt := (.cons (.int .u64) (.cons (.int .u64) (.int .i64)))
noncomputable def law15_CredentialBack_H : List Po := []
noncomputable def law15_CredentialBack_R : Pt := .bool
noncomputable def law15_CredentialBack_G : List Po := []
noncomputable def law15_CredentialBack_V (f : Int → Int → Int → Option Bool) (x : (Int × Int × Int)) : Option Bool := f x.1 x.2.1 x.2.2
noncomputable def law15_CredentialBack_C : Cal := tbl [(12, (ent base_Credential_P base_Credential_H base_Credential_R base_Credential_G (base_Credential_V (base_Credential)))), (24, (ent credential_ID_P credential_ID_H credential_ID_R credential_ID_G (credential_ID_V (credential_ID)))), (10, (ent law15_awake_P law15_awake_H law15_awake_R law15_awake_G (law15_awake_V (law15_awake)))), (25, (ent credential_Unwrap_P credential_Unwrap_H credential_Unwrap_R credential_Unwrap_G (credential_Unwrap_V (credential_Unwrap))))]
theorem law15_CredentialBack_Cok : CalOK Tryz.prog law15_CredentialBack_C ∧ CalNt law15_CredentialBack_C := by
  unfold law15_CredentialBack_C
  exact tbl_ok (by
    intro p hp
    simp only [List.mem_cons, List.not_mem_nil, or_false] at hp
    rcases hp with rfl | rfl | rfl | rfl
    · exact base_Credential_ok
    · exact credential_ID_ok
    · exact law15_awake_ok
    · exact credential_Unwrap_ok)
noncomputable def law15_CredentialBack_FH : FH := { ops := [(8, [(4, .borrow)])] }
theorem law15_CredentialBack_b (a1 : Int) (a2 : Int) (a3 : Int) : bodyC Tryz.prog law15_CredentialBack_C law15_CredentialBack_FH [] [] { keep := [] } 5 law15_CredentialBack_P law15_CredentialBack_H law15_CredentialBack_R law15_CredentialBack_G (a1, a2, a3) _ some = law15_CredentialBack a1 a2 a3 := by kernel_rfl
theorem law15_CredentialBack_ok : EntOK Tryz.prog 5 (ent law15_CredentialBack_P law15_CredentialBack_H law15_CredentialBack_R law15_CredentialBack_G (law15_CredentialBack_V (law15_CredentialBack))) :=
  ent_ok law15_CredentialBack_FH law15_CredentialBack_Cok (hp := law15_CredentialBack_H) (fn := Tryz.f5) (by kernel_rfl) (ToldC.nil 0) fun (x : (Int × Int × Int)) => law15_CredentialBack_b x.1 x.2.1 x.2.2

/-! credential_Tag: passkey/credential.Tag -/
noncomputable def credential_Tag_P : Pt := (.nums .u8)
noncomputable def credential_Tag_H : List Po := []
noncomputable def credential_Tag_R : Pt := (.int .u64)
noncomputable def credential_Tag_G : List Po := []
noncomputable def credential_Tag_V (f : (List Int) → Option Int) (x : List Int) : Option Int := f x
noncomputable def credential_Tag_C : Cal := tbl [(65, (ent digest_Hash_P digest_Hash_H digest_Hash_R digest_Hash_G (digest_Hash_V (digest_Hash))))]
theorem credential_Tag_Cok : CalOK Tryz.prog credential_Tag_C ∧ CalNt credential_Tag_C := by
  unfold credential_Tag_C
  exact tbl_ok (by
    intro p hp
    simp only [List.mem_cons, List.not_mem_nil, or_false] at hp
    rcases hp with rfl
    exact digest_Hash_ok)
noncomputable def credential_Tag_FH : FH := {}
theorem credential_Tag_b (a1 : List Int) : bodyC Tryz.prog credential_Tag_C credential_Tag_FH [] [] { keep := [] } 26 credential_Tag_P credential_Tag_H credential_Tag_R credential_Tag_G a1 _ some = credential_Tag a1 := by kernel_rfl
theorem credential_Tag_ok : EntOK Tryz.prog 26 (ent credential_Tag_P credential_Tag_H credential_Tag_R credential_Tag_G (credential_Tag_V (credential_Tag))) :=
  ent_ok credential_Tag_FH credential_Tag_Cok (hp := credential_Tag_H) (fn := Tryz.f26) (by kernel_rfl) (ToldC.nil 0) fun (x : List Int) => credential_Tag_b x

/-! ref14_Tag: passkey/passkeyref14.Tag -/
noncomputable def ref14_Tag_P : Pt := (.nums .u8)
noncomputable def ref14_Tag_H : List Po := []
noncomputable def ref14_Tag_R : Pt := (.int .u64)
noncomputable def ref14_Tag_G : List Po := []
noncomputable def ref14_Tag_V (f : (List Int) → Option Int) (x : List Int) : Option Int := f x
noncomputable def ref14_Tag_C : Cal := tbl [(56, (ent ref1_Hash_P ref1_Hash_H ref1_Hash_R ref1_Hash_G (ref1_Hash_V (ref1_Hash))))]
theorem ref14_Tag_Cok : CalOK Tryz.prog ref14_Tag_C ∧ CalNt ref14_Tag_C := by
  unfold ref14_Tag_C
  exact tbl_ok (by
    intro p hp
    simp only [List.mem_cons, List.not_mem_nil, or_false] at hp
    rcases hp with rfl
    exact ref1_Hash_ok)
noncomputable def ref14_Tag_FH : FH := {}
theorem ref14_Tag_b (a1 : List Int) : bodyC Tryz.prog ref14_Tag_C ref14_Tag_FH [] [] { keep := [] } 27 ref14_Tag_P ref14_Tag_H ref14_Tag_R ref14_Tag_G a1 _ some = ref14_Tag a1 := by kernel_rfl
theorem ref14_Tag_ok : EntOK Tryz.prog 27 (ent ref14_Tag_P ref14_Tag_H ref14_Tag_R ref14_Tag_G (ref14_Tag_V (ref14_Tag))) :=
  ent_ok ref14_Tag_FH ref14_Tag_Cok (hp := ref14_Tag_H) (fn := Tryz.f27) (by kernel_rfl) (ToldC.nil 0) fun (x : List Int) => ref14_Tag_b x

/-! law15_CredentialIDs: passkey/passkeylaw15.CredentialIDs -/
noncomputable def law15_CredentialIDs_P : Pt := (.cons (.int .u64) (.cons (.int .u64) (.cons (.int .i64) (.cons (.int .i64) (.nums .u8)))))
noncomputable def law15_CredentialIDs_H : List Po := []
noncomputable def law15_CredentialIDs_R : Pt := .bool
noncomputable def law15_CredentialIDs_G : List Po := []
noncomputable def law15_CredentialIDs_V (f : Int → Int → Int → Int → (List Int) → Option Bool) (x : (Int × Int × Int × Int × List Int)) : Option Bool := f x.1 x.2.1 x.2.2.1 x.2.2.2.1 x.2.2.2.2
noncomputable def law15_CredentialIDs_C : Cal := tbl [(10, (ent law15_awake_P law15_awake_H law15_awake_R law15_awake_G (law15_awake_V (law15_awake)))), (12, (ent base_Credential_P base_Credential_H base_Credential_R base_Credential_G (base_Credential_V (base_Credential)))), (11, (ent law15_spoil_P law15_spoil_H law15_spoil_R law15_spoil_G (law15_spoil_V (law15_spoil)))), (24, (ent credential_ID_P credential_ID_H credential_ID_R credential_ID_G (credential_ID_V (credential_ID)))), (17, (ent ref14_ID_P ref14_ID_H ref14_ID_R ref14_ID_G (ref14_ID_V (ref14_ID)))), (26, (ent credential_Tag_P credential_Tag_H credential_Tag_R credential_Tag_G (credential_Tag_V (credential_Tag)))), (27, (ent ref14_Tag_P ref14_Tag_H ref14_Tag_R ref14_Tag_G (ref14_Tag_V (ref14_Tag))))]
theorem law15_CredentialIDs_Cok : CalOK Tryz.prog law15_CredentialIDs_C ∧ CalNt law15_CredentialIDs_C := by
  unfold law15_CredentialIDs_C
  exact tbl_ok (by
    intro p hp
    simp only [List.mem_cons, List.not_mem_nil, or_false] at hp
    rcases hp with rfl | rfl | rfl | rfl | rfl | rfl | rfl
    · exact law15_awake_ok
    · exact base_Credential_ok
    · exact law15_spoil_ok
    · exact credential_ID_ok
    · exact ref14_ID_ok
    · exact credential_Tag_ok
    · exact ref14_Tag_ok)
noncomputable def law15_CredentialIDs_FH : FH := { ops := [(6, [(19, .borrow), (21, .borrow)])] }
theorem law15_CredentialIDs_b (a1 : Int) (a2 : Int) (a3 : Int) (a4 : Int) (a5 : List Int) : bodyC Tryz.prog law15_CredentialIDs_C law15_CredentialIDs_FH [] [] { keep := [] } 6 law15_CredentialIDs_P law15_CredentialIDs_H law15_CredentialIDs_R law15_CredentialIDs_G (a1, a2, a3, a4, a5) _ some = law15_CredentialIDs a1 a2 a3 a4 a5 := by kernel_rfl
theorem law15_CredentialIDs_ok : EntOK Tryz.prog 6 (ent law15_CredentialIDs_P law15_CredentialIDs_H law15_CredentialIDs_R law15_CredentialIDs_G (law15_CredentialIDs_V (law15_CredentialIDs))) :=
  ent_ok law15_CredentialIDs_FH law15_CredentialIDs_Cok (hp := law15_CredentialIDs_H) (fn := Tryz.f6) (by kernel_rfl) (ToldC.nil 0) fun (x : (Int × Int × Int × Int × List Int)) => law15_CredentialIDs_b x.1 x.2.1 x.2.2.1 x.2.2.2.1 x.2.2.2.2

/-! credential_Decode: passkey/credential.Decode -/
noncomputable def credential_Decode_P : Pt := (.nums .u8)
noncomputable def credential_Decode_H : List Po := []
noncomputable def credential_Decode_R : Pt := (.tup (.cons (.agg (.cons .str (.cons .str (.cons .str (.cons (.int .u64) (.cons (.int .i64) (.cons .bool (.cons (.int .i64) (.cons .bool .bool))))))))) (.int .i64)))
noncomputable def credential_Decode_G : List Po := []
noncomputable def credential_Decode_V (f : (List Int) → Option ((ByteArray × ByteArray × ByteArray × Int × Int × Bool × Int × Bool × Bool) × Int)) (x : List Int) : Option ((ByteArray × ByteArray × ByteArray × Int × Int × Bool × Int × Bool × Bool) × Int) := f x
noncomputable def credential_Decode_C : Cal := tbl [(63, (ent credential_prefix_P credential_prefix_H credential_prefix_R credential_prefix_G (credential_prefix_V (credential_prefix))))]
theorem credential_Decode_Cok : CalOK Tryz.prog credential_Decode_C ∧ CalNt credential_Decode_C := by
  unfold credential_Decode_C
  exact tbl_ok (by
    intro p hp
    simp only [List.mem_cons, List.not_mem_nil, or_false] at hp
    rcases hp with rfl
    exact credential_prefix_ok)
noncomputable def credential_Decode_FH : FH := {}
theorem credential_Decode_b (a1 : List Int) : bodyC Tryz.prog credential_Decode_C credential_Decode_FH [] [] { keep := [] } 28 credential_Decode_P credential_Decode_H credential_Decode_R credential_Decode_G a1 _ some = credential_Decode a1 := by kernel_rfl
theorem credential_Decode_ok : EntOK Tryz.prog 28 (ent credential_Decode_P credential_Decode_H credential_Decode_R credential_Decode_G (credential_Decode_V (credential_Decode))) :=
  ent_ok credential_Decode_FH credential_Decode_Cok (hp := credential_Decode_H) (fn := Tryz.f28) (by kernel_rfl) (ToldC.nil 0) fun (x : List Int) => credential_Decode_b x

/-! ref14_DecodeCredential: passkey/passkeyref14.DecodeCredential -/
noncomputable def ref14_DecodeCredential_P : Pt := (.nums .u8)
noncomputable def ref14_DecodeCredential_H : List Po := []
noncomputable def ref14_DecodeCredential_R : Pt := (.tup (.cons (.agg (.cons .str (.cons .str (.cons .str (.cons (.int .u64) (.cons (.int .i64) (.cons .bool (.cons (.int .i64) (.cons .bool .bool))))))))) (.int .i64)))
noncomputable def ref14_DecodeCredential_G : List Po := []
noncomputable def ref14_DecodeCredential_V (f : (List Int) → Option ((ByteArray × ByteArray × ByteArray × Int × Int × Bool × Int × Bool × Bool) × Int)) (x : List Int) : Option ((ByteArray × ByteArray × ByteArray × Int × Int × Bool × Int × Bool × Bool) × Int) := f x
noncomputable def ref14_DecodeCredential_C : Cal := tbl [(81, (ent ref14_read_P ref14_read_H ref14_read_R ref14_read_G (ref14_read_V (ref14_read))))]
theorem ref14_DecodeCredential_Cok : CalOK Tryz.prog ref14_DecodeCredential_C ∧ CalNt ref14_DecodeCredential_C := by
  unfold ref14_DecodeCredential_C
  exact tbl_ok (by
    intro p hp
    simp only [List.mem_cons, List.not_mem_nil, or_false] at hp
    rcases hp with rfl
    exact ref14_read_ok)
noncomputable def ref14_DecodeCredential_FH : FH := {}
theorem ref14_DecodeCredential_b (a1 : List Int) : bodyC Tryz.prog ref14_DecodeCredential_C ref14_DecodeCredential_FH [] [] { keep := [] } 66 ref14_DecodeCredential_P ref14_DecodeCredential_H ref14_DecodeCredential_R ref14_DecodeCredential_G a1 _ some = ref14_DecodeCredential a1 := by kernel_rfl
theorem ref14_DecodeCredential_ok : EntOK Tryz.prog 66 (ent ref14_DecodeCredential_P ref14_DecodeCredential_H ref14_DecodeCredential_R ref14_DecodeCredential_G (ref14_DecodeCredential_V (ref14_DecodeCredential))) :=
  ent_ok ref14_DecodeCredential_FH ref14_DecodeCredential_Cok (hp := ref14_DecodeCredential_H) (fn := Tryz.f66) (by kernel_rfl) (ToldC.nil 0) fun (x : List Int) => ref14_DecodeCredential_b x

/-! law15_decodes: passkey/passkeylaw15.decodes -/
noncomputable def law15_decodes_P : Pt := (.nums .u8)
noncomputable def law15_decodes_H : List Po := []
noncomputable def law15_decodes_R : Pt := .bool
noncomputable def law15_decodes_G : List Po := []
noncomputable def law15_decodes_V (f : (List Int) → Option Bool) (x : List Int) : Option Bool := f x
noncomputable def law15_decodes_C : Cal := tbl [(28, (ent credential_Decode_P credential_Decode_H credential_Decode_R credential_Decode_G (credential_Decode_V (credential_Decode)))), (66, (ent ref14_DecodeCredential_P ref14_DecodeCredential_H ref14_DecodeCredential_R ref14_DecodeCredential_G (ref14_DecodeCredential_V (ref14_DecodeCredential))))]
theorem law15_decodes_Cok : CalOK Tryz.prog law15_decodes_C ∧ CalNt law15_decodes_C := by
  unfold law15_decodes_C
  exact tbl_ok (by
    intro p hp
    simp only [List.mem_cons, List.not_mem_nil, or_false] at hp
    rcases hp with rfl | rfl
    · exact credential_Decode_ok
    · exact ref14_DecodeCredential_ok)
noncomputable def law15_decodes_FH : FH := {}
theorem law15_decodes_b (a1 : List Int) : bodyC Tryz.prog law15_decodes_C law15_decodes_FH [] [] { keep := [] } 29 law15_decodes_P law15_decodes_H law15_decodes_R law15_decodes_G a1 _ some = law15_decodes a1 := by kernel_rfl
theorem law15_decodes_ok : EntOK Tryz.prog 29 (ent law15_decodes_P law15_decodes_H law15_decodes_R law15_decodes_G (law15_decodes_V (law15_decodes))) :=
  ent_ok law15_decodes_FH law15_decodes_Cok (hp := law15_decodes_H) (fn := Tryz.f29) (by kernel_rfl) (ToldC.nil 0) fun (x : List Int) => law15_decodes_b x

/-! law15_CredentialDecodes: passkey/passkeylaw15.CredentialDecodes -/
noncomputable def law15_CredentialDecodes_P : Pt := (.cons (.nums .u8) (.cons (.int .i64) (.cons (.int .i64) (.int .u8))))
noncomputable def law15_CredentialDecodes_H : List Po := []
noncomputable def law15_CredentialDecodes_R : Pt := .bool
noncomputable def law15_CredentialDecodes_G : List Po := []
noncomputable def law15_CredentialDecodes_V (f : (List Int) → Int → Int → Int → Option Bool) (x : (List Int × Int × Int × Int)) : Option Bool := f x.1 x.2.1 x.2.2.1 x.2.2.2
noncomputable def law15_CredentialDecodes_C : Cal := tbl [(10, (ent law15_awake_P law15_awake_H law15_awake_R law15_awake_G (law15_awake_V (law15_awake)))), (12, (ent base_Credential_P base_Credential_H base_Credential_R base_Credential_G (base_Credential_V (base_Credential)))), (14, (ent ref14_EncodeCredential_P ref14_EncodeCredential_H ref14_EncodeCredential_R ref14_EncodeCredential_G (ref14_EncodeCredential_V (ref14_EncodeCredential)))), (28, (ent credential_Decode_P credential_Decode_H credential_Decode_R credential_Decode_G (credential_Decode_V (credential_Decode)))), (29, (ent law15_decodes_P law15_decodes_H law15_decodes_R law15_decodes_G (law15_decodes_V (law15_decodes))))]
theorem law15_CredentialDecodes_Cok : CalOK Tryz.prog law15_CredentialDecodes_C ∧ CalNt law15_CredentialDecodes_C := by
  unfold law15_CredentialDecodes_C
  exact tbl_ok (by
    intro p hp
    simp only [List.mem_cons, List.not_mem_nil, or_false] at hp
    rcases hp with rfl | rfl | rfl | rfl | rfl
    · exact law15_awake_ok
    · exact base_Credential_ok
    · exact ref14_EncodeCredential_ok
    · exact credential_Decode_ok
    · exact law15_decodes_ok)
noncomputable def law15_CredentialDecodes_FH : FH := { ops := [(5, [(1, .borrow)]), (9, [(4, .borrow), (10, .borrow)])] }
theorem law15_CredentialDecodes_b (a1 : List Int) (a2 : Int) (a3 : Int) (a4 : Int) : bodyC Tryz.prog law15_CredentialDecodes_C law15_CredentialDecodes_FH [] [] { keep := [] } 7 law15_CredentialDecodes_P law15_CredentialDecodes_H law15_CredentialDecodes_R law15_CredentialDecodes_G (a1, a2, a3, a4) _ some = law15_CredentialDecodes a1 a2 a3 a4 := by kernel_rfl
theorem law15_CredentialDecodes_ok : EntOK Tryz.prog 7 (ent law15_CredentialDecodes_P law15_CredentialDecodes_H law15_CredentialDecodes_R law15_CredentialDecodes_G (law15_CredentialDecodes_V (law15_CredentialDecodes))) :=
  ent_ok law15_CredentialDecodes_FH law15_CredentialDecodes_Cok (hp := law15_CredentialDecodes_H) (fn := Tryz.f7) (by kernel_rfl) (ToldC.nil 0) fun (x : (List Int × Int × Int × Int)) => law15_CredentialDecodes_b x.1 x.2.1 x.2.2.1 x.2.2.2

/-! credential_EncodeGrant: passkey/credential.EncodeGrant -/
noncomputable def credential_EncodeGrant_P : Pt := (.cons (.agg (.cons .str (.cons .str (.cons .str (.cons (.int .u64) (.cons (.int .i64) (.cons .bool (.cons (.int .i64) (.cons .bool .bool))))))))) (.cons (.int .i64) (.int .i64)))
noncomputable def credential_EncodeGrant_H : List Po := []
noncomputable def credential_EncodeGrant_R : Pt := (.tup (.cons (.ref 0) (.int .i64)))
noncomputable def credential_EncodeGrant_G : List Po := [(.arrN 1 5 .u8)]
noncomputable def credential_EncodeGrant_V (f : ByteArray → ByteArray → ByteArray → Int → Int → Bool → Int → Bool → Bool → Int → Int → Option ((Unit × Int) × List Int)) (x : ((ByteArray × ByteArray × ByteArray × Int × Int × Bool × Int × Bool × Bool) × Int × Int)) : Option ((Unit × Int) × List Int) := f x.1.1 x.1.2.1 x.1.2.2.1 x.1.2.2.2.1 x.1.2.2.2.2.1 x.1.2.2.2.2.2.1 x.1.2.2.2.2.2.2.1 x.1.2.2.2.2.2.2.2.1 x.1.2.2.2.2.2.2.2.2 x.2.1 x.2.2
noncomputable def credential_EncodeGrant_C : Cal := tbl [(13, (ent credential_Encode_P credential_Encode_H credential_Encode_R credential_Encode_G (credential_Encode_V (credential_Encode))))]
theorem credential_EncodeGrant_Cok : CalOK Tryz.prog credential_EncodeGrant_C ∧ CalNt credential_EncodeGrant_C := by
  unfold credential_EncodeGrant_C
  exact tbl_ok (by
    intro p hp
    simp only [List.mem_cons, List.not_mem_nil, or_false] at hp
    rcases hp with rfl
    exact credential_Encode_ok)
noncomputable def credential_EncodeGrant_FH : FH := {}
theorem credential_EncodeGrant_b (a1 : ByteArray) (a2 : ByteArray) (a3 : ByteArray) (a4 : Int) (a5 : Int) (a6 : Bool) (a7 : Int) (a8 : Bool) (a9 : Bool) (a10 : Int) (a11 : Int) : bodyC Tryz.prog credential_EncodeGrant_C credential_EncodeGrant_FH [] [] { keep := [], own := [(0, 5)] } 30 credential_EncodeGrant_P credential_EncodeGrant_H credential_EncodeGrant_R credential_EncodeGrant_G ((a1, a2, a3, a4, a5, a6, a7, a8, a9), a10, a11) _ some = credential_EncodeGrant a1 a2 a3 a4 a5 a6 a7 a8 a9 a10 a11 := by kernel_rfl
theorem credential_EncodeGrant_ok : EntOK Tryz.prog 30 (ent credential_EncodeGrant_P credential_EncodeGrant_H credential_EncodeGrant_R credential_EncodeGrant_G (credential_EncodeGrant_V (credential_EncodeGrant))) :=
  ent_ok credential_EncodeGrant_FH credential_EncodeGrant_Cok (hp := credential_EncodeGrant_H) (fn := Tryz.f30) (by kernel_rfl) (ToldC.nil 0) fun (x : ((ByteArray × ByteArray × ByteArray × Int × Int × Bool × Int × Bool × Bool) × Int × Int)) => credential_EncodeGrant_b x.1.1 x.1.2.1 x.1.2.2.1 x.1.2.2.2.1 x.1.2.2.2.2.1 x.1.2.2.2.2.2.1 x.1.2.2.2.2.2.2.1 x.1.2.2.2.2.2.2.2.1 x.1.2.2.2.2.2.2.2.2 x.2.1 x.2.2

/-! ref14_EncodeGrant: passkey/passkeyref14.EncodeGrant -/
noncomputable def ref14_EncodeGrant_P : Pt := (.cons (.agg (.cons .str (.cons .str (.cons .str (.cons (.int .u64) (.cons (.int .i64) (.cons .bool (.cons (.int .i64) (.cons .bool .bool))))))))) (.cons (.int .i64) (.int .i64)))
noncomputable def ref14_EncodeGrant_H : List Po := []
noncomputable def ref14_EncodeGrant_R : Pt := (.tup (.cons (.ref 0) (.int .i64)))
noncomputable def ref14_EncodeGrant_G : List Po := [(.arrN 1 5 .u8)]
noncomputable def ref14_EncodeGrant_V (f : ByteArray → ByteArray → ByteArray → Int → Int → Bool → Int → Bool → Bool → Int → Int → Option ((Unit × Int) × List Int)) (x : ((ByteArray × ByteArray × ByteArray × Int × Int × Bool × Int × Bool × Bool) × Int × Int)) : Option ((Unit × Int) × List Int) := f x.1.1 x.1.2.1 x.1.2.2.1 x.1.2.2.2.1 x.1.2.2.2.2.1 x.1.2.2.2.2.2.1 x.1.2.2.2.2.2.2.1 x.1.2.2.2.2.2.2.2.1 x.1.2.2.2.2.2.2.2.2 x.2.1 x.2.2
noncomputable def ref14_EncodeGrant_C : Cal := tbl [(14, (ent ref14_EncodeCredential_P ref14_EncodeCredential_H ref14_EncodeCredential_R ref14_EncodeCredential_G (ref14_EncodeCredential_V (ref14_EncodeCredential))))]
theorem ref14_EncodeGrant_Cok : CalOK Tryz.prog ref14_EncodeGrant_C ∧ CalNt ref14_EncodeGrant_C := by
  unfold ref14_EncodeGrant_C
  exact tbl_ok (by
    intro p hp
    simp only [List.mem_cons, List.not_mem_nil, or_false] at hp
    rcases hp with rfl
    exact ref14_EncodeCredential_ok)
noncomputable def ref14_EncodeGrant_FH : FH := {}
theorem ref14_EncodeGrant_b (a1 : ByteArray) (a2 : ByteArray) (a3 : ByteArray) (a4 : Int) (a5 : Int) (a6 : Bool) (a7 : Int) (a8 : Bool) (a9 : Bool) (a10 : Int) (a11 : Int) : bodyC Tryz.prog ref14_EncodeGrant_C ref14_EncodeGrant_FH [] [] { keep := [], own := [(0, 5)] } 31 ref14_EncodeGrant_P ref14_EncodeGrant_H ref14_EncodeGrant_R ref14_EncodeGrant_G ((a1, a2, a3, a4, a5, a6, a7, a8, a9), a10, a11) _ some = ref14_EncodeGrant a1 a2 a3 a4 a5 a6 a7 a8 a9 a10 a11 := by kernel_rfl
theorem ref14_EncodeGrant_ok : EntOK Tryz.prog 31 (ent ref14_EncodeGrant_P ref14_EncodeGrant_H ref14_EncodeGrant_R ref14_EncodeGrant_G (ref14_EncodeGrant_V (ref14_EncodeGrant))) :=
  ent_ok ref14_EncodeGrant_FH ref14_EncodeGrant_Cok (hp := ref14_EncodeGrant_H) (fn := Tryz.f31) (by kernel_rfl) (ToldC.nil 0) fun (x : ((ByteArray × ByteArray × ByteArray × Int × Int × Bool × Int × Bool × Bool) × Int × Int)) => ref14_EncodeGrant_b x.1.1 x.1.2.1 x.1.2.2.1 x.1.2.2.2.1 x.1.2.2.2.2.1 x.1.2.2.2.2.2.1 x.1.2.2.2.2.2.2.1 x.1.2.2.2.2.2.2.2.1 x.1.2.2.2.2.2.2.2.2 x.2.1 x.2.2

/-! credential_DecodeGrant: passkey/credential.DecodeGrant -/
noncomputable def credential_DecodeGrant_j6p : SP := { n := 47, ix := [2], p := (.ptr 0 0), hp := [(.cells (.cons .str (.cons .str (.cons .str (.cons (.int .u64) (.cons (.int .i64) (.cons .bool (.cons (.int .i64) (.cons .bool .bool)))))))))] }
noncomputable def credential_DecodeGrant_j6x : List (Ex × SP) := [(.ret, { n := 47, ix := [2, 3, 4, 5], p := (.cons (.ptr 0 0) (.cons (.int .i64) (.cons (.int .i64) (.int .i64)))), hp := [(.cells (.cons .str (.cons .str (.cons .str (.cons (.int .u64) (.cons (.int .i64) (.cons .bool (.cons (.int .i64) (.cons .bool .bool)))))))))] })]
noncomputable def credential_DecodeGrant_P : Pt := (.nums .u8)
noncomputable def credential_DecodeGrant_H : List Po := []
noncomputable def credential_DecodeGrant_R : Pt := (.tup (.cons (.agg (.cons .str (.cons .str (.cons .str (.cons (.int .u64) (.cons (.int .i64) (.cons .bool (.cons (.int .i64) (.cons .bool .bool))))))))) (.cons (.int .i64) (.cons (.int .i64) (.int .i64)))))
noncomputable def credential_DecodeGrant_G : List Po := []
noncomputable def credential_DecodeGrant_V (f : (List Int) → Option ((ByteArray × ByteArray × ByteArray × Int × Int × Bool × Int × Bool × Bool) × Int × Int × Int)) (x : List Int) : Option ((ByteArray × ByteArray × ByteArray × Int × Int × Bool × Int × Bool × Bool) × Int × Int × Int) := f x
noncomputable def credential_DecodeGrant_C : Cal := tbl [(28, (ent credential_Decode_P credential_Decode_H credential_Decode_R credential_Decode_G (credential_Decode_V (credential_Decode))))]
theorem credential_DecodeGrant_Cok : CalOK Tryz.prog credential_DecodeGrant_C ∧ CalNt credential_DecodeGrant_C := by
  unfold credential_DecodeGrant_C
  exact tbl_ok (by
    intro p hp
    simp only [List.mem_cons, List.not_mem_nil, or_false] at hp
    rcases hp with rfl
    exact credential_Decode_ok)
noncomputable def credential_DecodeGrant_FH : FH := { join := [(6, { keep := [2] })], ops := [(3, [(1, .cold), (2, .cold), (5, .cold), (6, .cold)])], see := [(3, [(1, []), (2, []), (3, []), (5, []), (6, []), (7, [])])] }
theorem credential_DecodeGrant_j6_s (a1 : ByteArray) (a2 : ByteArray) (a3 : ByteArray) (a4 : Int) (a5 : Int) (a6 : Bool) (a7 : Int) (a8 : Bool) (a9 : Bool) : joinC Tryz.prog credential_DecodeGrant_C credential_DecodeGrant_FH [] [] 0 ((joinsAt 6 (codeOf Tryz.f32)).headD .skip) credential_DecodeGrant_j6p credential_DecodeGrant_j6x { keep := [2, 3, 4, 5] } ((), (a1, a2, a3, a4, a5, a6, a7, a8, a9)) _ some = credential_DecodeGrant_j6 ((), (a1, a2, a3, a4, a5, a6, a7, a8, a9)) := by kernel_rfl
theorem credential_DecodeGrant_j6_t : ToldC Tryz.prog 0 (codeOf Tryz.f32) [] ((6, toldJ credential_DecodeGrant_j6p credential_DecodeGrant_j6x credential_DecodeGrant_j6) :: []) :=
  ToldC.join credential_DecodeGrant_FH 0 (ToldC.nil 0) credential_DecodeGrant_Cok 6 ((joinsAt 6 (codeOf Tryz.f32)).headD .skip) (by kernel_rfl) (p := credential_DecodeGrant_j6p) (px := credential_DecodeGrant_j6x) (g := credential_DecodeGrant_j6) (ho := { keep := [2, 3, 4, 5] }) fun (x : (Unit × (ByteArray × ByteArray × ByteArray × Int × Int × Bool × Int × Bool × Bool))) => credential_DecodeGrant_j6_s x.2.1 x.2.2.1 x.2.2.2.1 x.2.2.2.2.1 x.2.2.2.2.2.1 x.2.2.2.2.2.2.1 x.2.2.2.2.2.2.2.1 x.2.2.2.2.2.2.2.2.1 x.2.2.2.2.2.2.2.2.2
theorem credential_DecodeGrant_b (a1 : List Int) : bodyC Tryz.prog credential_DecodeGrant_C credential_DecodeGrant_FH [] ((6, toldJ credential_DecodeGrant_j6p credential_DecodeGrant_j6x credential_DecodeGrant_j6) :: []) { keep := [] } 32 credential_DecodeGrant_P credential_DecodeGrant_H credential_DecodeGrant_R credential_DecodeGrant_G a1 _ some = credential_DecodeGrant a1 := by kernel_rfl
theorem credential_DecodeGrant_ok : EntOK Tryz.prog 32 (ent credential_DecodeGrant_P credential_DecodeGrant_H credential_DecodeGrant_R credential_DecodeGrant_G (credential_DecodeGrant_V (credential_DecodeGrant))) :=
  ent_ok credential_DecodeGrant_FH credential_DecodeGrant_Cok (hp := credential_DecodeGrant_H) (fn := Tryz.f32) (by kernel_rfl) credential_DecodeGrant_j6_t fun (x : List Int) => credential_DecodeGrant_b x

/-! ref14_DecodeGrant: passkey/passkeyref14.DecodeGrant -/
noncomputable def ref14_DecodeGrant_P : Pt := (.nums .u8)
noncomputable def ref14_DecodeGrant_H : List Po := []
noncomputable def ref14_DecodeGrant_R : Pt := (.tup (.cons (.agg (.cons .str (.cons .str (.cons .str (.cons (.int .u64) (.cons (.int .i64) (.cons .bool (.cons (.int .i64) (.cons .bool .bool))))))))) (.cons (.int .i64) (.cons (.int .i64) (.int .i64)))))
noncomputable def ref14_DecodeGrant_G : List Po := []
noncomputable def ref14_DecodeGrant_V (f : (List Int) → Option ((ByteArray × ByteArray × ByteArray × Int × Int × Bool × Int × Bool × Bool) × Int × Int × Int)) (x : List Int) : Option ((ByteArray × ByteArray × ByteArray × Int × Int × Bool × Int × Bool × Bool) × Int × Int × Int) := f x
noncomputable def ref14_DecodeGrant_C : Cal := tbl [(66, (ent ref14_DecodeCredential_P ref14_DecodeCredential_H ref14_DecodeCredential_R ref14_DecodeCredential_G (ref14_DecodeCredential_V (ref14_DecodeCredential)))), (31, (ent ref14_EncodeGrant_P ref14_EncodeGrant_H ref14_EncodeGrant_R ref14_EncodeGrant_G (ref14_EncodeGrant_V (ref14_EncodeGrant))))]
theorem ref14_DecodeGrant_Cok : CalOK Tryz.prog ref14_DecodeGrant_C ∧ CalNt ref14_DecodeGrant_C := by
  unfold ref14_DecodeGrant_C
  exact tbl_ok (by
    intro p hp
    simp only [List.mem_cons, List.not_mem_nil, or_false] at hp
    rcases hp with rfl | rfl
    · exact ref14_DecodeCredential_ok
    · exact ref14_EncodeGrant_ok)
noncomputable def ref14_DecodeGrant_FH : FH := { ops := [(6, [(2, .cold), (3, .cold), (6, .cold), (7, .cold)]), (9, [(2, .cold), (3, .cold), (6, .cold), (7, .cold)])], see := [(6, [(0, [1]), (2, []), (3, []), (4, []), (6, []), (7, []), (8, [])]), (9, [(0, [1]), (2, []), (3, []), (4, []), (6, []), (7, []), (8, []), (9, [0])])] }
theorem ref14_DecodeGrant_b (a1 : List Int) : bodyC Tryz.prog ref14_DecodeGrant_C ref14_DecodeGrant_FH [] [] { keep := [] } 67 ref14_DecodeGrant_P ref14_DecodeGrant_H ref14_DecodeGrant_R ref14_DecodeGrant_G a1 _ some = ref14_DecodeGrant a1 := by kernel_rfl
theorem ref14_DecodeGrant_ok : EntOK Tryz.prog 67 (ent ref14_DecodeGrant_P ref14_DecodeGrant_H ref14_DecodeGrant_R ref14_DecodeGrant_G (ref14_DecodeGrant_V (ref14_DecodeGrant))) :=
  ent_ok ref14_DecodeGrant_FH ref14_DecodeGrant_Cok (hp := ref14_DecodeGrant_H) (fn := Tryz.f67) (by kernel_rfl) (ToldC.nil 0) fun (x : List Int) => ref14_DecodeGrant_b x

/-! law15_grants: passkey/passkeylaw15.grants -/
noncomputable def law15_grants_P : Pt := (.nums .u8)
noncomputable def law15_grants_H : List Po := []
noncomputable def law15_grants_R : Pt := .bool
noncomputable def law15_grants_G : List Po := []
noncomputable def law15_grants_V (f : (List Int) → Option Bool) (x : List Int) : Option Bool := f x
noncomputable def law15_grants_C : Cal := tbl [(32, (ent credential_DecodeGrant_P credential_DecodeGrant_H credential_DecodeGrant_R credential_DecodeGrant_G (credential_DecodeGrant_V (credential_DecodeGrant)))), (67, (ent ref14_DecodeGrant_P ref14_DecodeGrant_H ref14_DecodeGrant_R ref14_DecodeGrant_G (ref14_DecodeGrant_V (ref14_DecodeGrant))))]
theorem law15_grants_Cok : CalOK Tryz.prog law15_grants_C ∧ CalNt law15_grants_C := by
  unfold law15_grants_C
  exact tbl_ok (by
    intro p hp
    simp only [List.mem_cons, List.not_mem_nil, or_false] at hp
    rcases hp with rfl | rfl
    · exact credential_DecodeGrant_ok
    · exact ref14_DecodeGrant_ok)
noncomputable def law15_grants_FH : FH := {}
theorem law15_grants_b (a1 : List Int) : bodyC Tryz.prog law15_grants_C law15_grants_FH [] [] { keep := [] } 33 law15_grants_P law15_grants_H law15_grants_R law15_grants_G a1 _ some = law15_grants a1 := by kernel_rfl
theorem law15_grants_ok : EntOK Tryz.prog 33 (ent law15_grants_P law15_grants_H law15_grants_R law15_grants_G (law15_grants_V (law15_grants))) :=
  ent_ok law15_grants_FH law15_grants_Cok (hp := law15_grants_H) (fn := Tryz.f33) (by kernel_rfl) (ToldC.nil 0) fun (x : List Int) => law15_grants_b x

/-! law15_CredentialGrants: passkey/passkeylaw15.CredentialGrants -/
noncomputable def law15_CredentialGrants_j16p : SP := { n := 141, ix := [4, 24], p := (.cons (.nums .u8) (.ref 0)), hp := [(.arrN 1 5 .u8)] }
noncomputable def law15_CredentialGrants_j16x : List (Ex × SP) := [(.ret, { n := 141, ix := [14], p := .bool })]
noncomputable def law15_CredentialGrants_P : Pt := (.cons (.int .i64) (.cons (.int .i64) (.cons (.int .i64) (.cons (.int .i64) (.cons (.nums .u8) (.cons (.int .i64) (.int .u8)))))))
noncomputable def law15_CredentialGrants_H : List Po := []
noncomputable def law15_CredentialGrants_R : Pt := .bool
noncomputable def law15_CredentialGrants_G : List Po := []
noncomputable def law15_CredentialGrants_V (f : Int → Int → Int → Int → (List Int) → Int → Int → Option Bool) (x : (Int × Int × Int × Int × List Int × Int × Int)) : Option Bool := f x.1 x.2.1 x.2.2.1 x.2.2.2.1 x.2.2.2.2.1 x.2.2.2.2.2.1 x.2.2.2.2.2.2
noncomputable def law15_CredentialGrants_C : Cal := tbl [(10, (ent law15_awake_P law15_awake_H law15_awake_R law15_awake_G (law15_awake_V (law15_awake)))), (12, (ent base_Credential_P base_Credential_H base_Credential_R base_Credential_G (base_Credential_V (base_Credential)))), (11, (ent law15_spoil_P law15_spoil_H law15_spoil_R law15_spoil_G (law15_spoil_V (law15_spoil)))), (30, (ent credential_EncodeGrant_P credential_EncodeGrant_H credential_EncodeGrant_R credential_EncodeGrant_G (credential_EncodeGrant_V (credential_EncodeGrant)))), (31, (ent ref14_EncodeGrant_P ref14_EncodeGrant_H ref14_EncodeGrant_R ref14_EncodeGrant_G (ref14_EncodeGrant_V (ref14_EncodeGrant)))), (32, (ent credential_DecodeGrant_P credential_DecodeGrant_H credential_DecodeGrant_R credential_DecodeGrant_G (credential_DecodeGrant_V (credential_DecodeGrant)))), (33, (ent law15_grants_P law15_grants_H law15_grants_R law15_grants_G (law15_grants_V (law15_grants))))]
theorem law15_CredentialGrants_Cok : CalOK Tryz.prog law15_CredentialGrants_C ∧ CalNt law15_CredentialGrants_C := by
  unfold law15_CredentialGrants_C
  exact tbl_ok (by
    intro p hp
    simp only [List.mem_cons, List.not_mem_nil, or_false] at hp
    rcases hp with rfl | rfl | rfl | rfl | rfl | rfl | rfl
    · exact law15_awake_ok
    · exact base_Credential_ok
    · exact law15_spoil_ok
    · exact credential_EncodeGrant_ok
    · exact ref14_EncodeGrant_ok
    · exact credential_DecodeGrant_ok
    · exact law15_grants_ok)
noncomputable def law15_CredentialGrants_FH : FH := { join := [(16, { keep := [4, 24] })], ops := [(12, [(1, .borrow)]), (16, [(1, .borrow)])] }
theorem law15_CredentialGrants_j16_s (a1 : List Int) (a2 : List Int) : joinC Tryz.prog law15_CredentialGrants_C law15_CredentialGrants_FH [] [] 0 ((joinsAt 16 (codeOf Tryz.f8)).headD .skip) law15_CredentialGrants_j16p law15_CredentialGrants_j16x { keep := [14] } ((a1, ()), a2) _ some = law15_CredentialGrants_j16 ((a1, ()), a2) := by kernel_rfl
theorem law15_CredentialGrants_j16_t : ToldC Tryz.prog 0 (codeOf Tryz.f8) [] ((16, toldJ law15_CredentialGrants_j16p law15_CredentialGrants_j16x law15_CredentialGrants_j16) :: []) :=
  ToldC.join law15_CredentialGrants_FH 0 (ToldC.nil 0) law15_CredentialGrants_Cok 16 ((joinsAt 16 (codeOf Tryz.f8)).headD .skip) (by kernel_rfl) (p := law15_CredentialGrants_j16p) (px := law15_CredentialGrants_j16x) (g := law15_CredentialGrants_j16) (ho := { keep := [14] }) fun (x : ((List Int × Unit) × List Int)) => law15_CredentialGrants_j16_s x.1.1 x.2
theorem law15_CredentialGrants_b (a1 : Int) (a2 : Int) (a3 : Int) (a4 : Int) (a5 : List Int) (a6 : Int) (a7 : Int) : bodyC Tryz.prog law15_CredentialGrants_C law15_CredentialGrants_FH [] ((16, toldJ law15_CredentialGrants_j16p law15_CredentialGrants_j16x law15_CredentialGrants_j16) :: []) { keep := [] } 8 law15_CredentialGrants_P law15_CredentialGrants_H law15_CredentialGrants_R law15_CredentialGrants_G (a1, a2, a3, a4, a5, a6, a7) _ some = law15_CredentialGrants a1 a2 a3 a4 a5 a6 a7 := by kernel_rfl
theorem law15_CredentialGrants_ok : EntOK Tryz.prog 8 (ent law15_CredentialGrants_P law15_CredentialGrants_H law15_CredentialGrants_R law15_CredentialGrants_G (law15_CredentialGrants_V (law15_CredentialGrants))) :=
  ent_ok law15_CredentialGrants_FH law15_CredentialGrants_Cok (hp := law15_CredentialGrants_H) (fn := Tryz.f8) (by kernel_rfl) law15_CredentialGrants_j16_t fun (x : (Int × Int × Int × Int × List Int × Int × Int)) => law15_CredentialGrants_b x.1 x.2.1 x.2.2.1 x.2.2.2.1 x.2.2.2.2.1 x.2.2.2.2.2.1 x.2.2.2.2.2.2

/-! treekey_tall: passkey/treekey.tall -/
noncomputable def treekey_tall_P : Pt := (.int .i64)
noncomputable def treekey_tall_H : List Po := []
noncomputable def treekey_tall_R : Pt := .bool
noncomputable def treekey_tall_G : List Po := []
noncomputable def treekey_tall_V (f : Int → Option Bool) (x : Int) : Option Bool := f x
noncomputable def treekey_tall_C : Cal := tbl []
theorem treekey_tall_Cok : CalOK Tryz.prog treekey_tall_C ∧ CalNt treekey_tall_C := by
  unfold treekey_tall_C
  exact tbl_ok (by intro p hp; simp at hp)
noncomputable def treekey_tall_FH : FH := {}
theorem treekey_tall_b (a1 : Int) : bodyC Tryz.prog treekey_tall_C treekey_tall_FH [] [] { keep := [] } 101 treekey_tall_P treekey_tall_H treekey_tall_R treekey_tall_G a1 _ some = treekey_tall a1 := by kernel_rfl
theorem treekey_tall_ok : EntOK Tryz.prog 101 (ent treekey_tall_P treekey_tall_H treekey_tall_R treekey_tall_G (treekey_tall_V (treekey_tall))) :=
  ent_ok treekey_tall_FH treekey_tall_Cok (hp := treekey_tall_H) (fn := Tryz.f101) (by kernel_rfl) (ToldC.nil 0) fun (x : Int) => treekey_tall_b x

/-! onetime_Secret: passkey/onetime.Secret -/
noncomputable def onetime_Secret_P : Pt := (.cons (.int .u64) (.cons (.int .i64) (.int .i64)))
noncomputable def onetime_Secret_H : List Po := []
noncomputable def onetime_Secret_R : Pt := (.int .u64)
noncomputable def onetime_Secret_G : List Po := []
noncomputable def onetime_Secret_V (f : Int → Int → Int → Option Int) (x : (Int × Int × Int)) : Option Int := f x.1 x.2.1 x.2.2
noncomputable def onetime_Secret_C : Cal := tbl [(82, (ent digest_Words_P digest_Words_H digest_Words_R digest_Words_G (digest_Words_V (digest_Words)))), (83, (ent digest_Mac_P digest_Mac_H digest_Mac_R digest_Mac_G (digest_Mac_V (digest_Mac))))]
theorem onetime_Secret_Cok : CalOK Tryz.prog onetime_Secret_C ∧ CalNt onetime_Secret_C := by
  unfold onetime_Secret_C
  exact tbl_ok (by
    intro p hp
    simp only [List.mem_cons, List.not_mem_nil, or_false] at hp
    rcases hp with rfl | rfl
    · exact digest_Words_ok
    · exact digest_Mac_ok)
noncomputable def onetime_Secret_FH : FH := { ops := [(1, [(6, .borrow), (7, .borrow)])] }
theorem onetime_Secret_b (a1 : Int) (a2 : Int) (a3 : Int) : bodyC Tryz.prog onetime_Secret_C onetime_Secret_FH [] [] { keep := [] } 175 onetime_Secret_P onetime_Secret_H onetime_Secret_R onetime_Secret_G (a1, a2, a3) _ some = onetime_Secret a1 a2 a3 := by kernel_rfl
theorem onetime_Secret_ok : EntOK Tryz.prog 175 (ent onetime_Secret_P onetime_Secret_H onetime_Secret_R onetime_Secret_G (onetime_Secret_V (onetime_Secret))) :=
  ent_ok onetime_Secret_FH onetime_Secret_Cok (hp := onetime_Secret_H) (fn := Tryz.f175) (by kernel_rfl) (ToldC.nil 0) fun (x : (Int × Int × Int)) => onetime_Secret_b x.1 x.2.1 x.2.2

/-! onetime_Run: passkey/onetime.Run -/
noncomputable def onetime_Run_l2p : SP := { n := 31, ix := [0, 1, 3, 4, 11], p := (.cons (.int .i64) (.cons (.int .i64) (.cons (.int .i64) (.cons (.int .u64) (.int .i64))))) }
noncomputable def onetime_Run_l2x : List (Ex × SP) := [((.exit 0), { n := 31, ix := [4], p := (.int .u64) })]
noncomputable def onetime_Run_P : Pt := (.cons (.int .i64) (.cons (.int .i64) (.cons (.int .i64) (.cons (.int .i64) (.int .u64)))))
noncomputable def onetime_Run_H : List Po := []
noncomputable def onetime_Run_R : Pt := (.int .u64)
noncomputable def onetime_Run_G : List Po := []
noncomputable def onetime_Run_V (f : Int → Int → Int → Int → Int → Option Int) (x : (Int × Int × Int × Int × Int)) : Option Int := f x.1 x.2.1 x.2.2.1 x.2.2.2.1 x.2.2.2.2
noncomputable def onetime_Run_C : Cal := tbl [(82, (ent digest_Words_P digest_Words_H digest_Words_R digest_Words_G (digest_Words_V (digest_Words)))), (65, (ent digest_Hash_P digest_Hash_H digest_Hash_R digest_Hash_G (digest_Hash_V (digest_Hash))))]
theorem onetime_Run_Cok : CalOK Tryz.prog onetime_Run_C ∧ CalNt onetime_Run_C := by
  unfold onetime_Run_C
  exact tbl_ok (by
    intro p hp
    simp only [List.mem_cons, List.not_mem_nil, or_false] at hp
    rcases hp with rfl | rfl
    · exact digest_Words_ok
    · exact digest_Hash_ok)
noncomputable def onetime_Run_FH : FH := { loops := [(2, { keep := [0, 1, 3, 4, 11] }, { keep := [4, 10] })], ops := [(4, [(8, .borrow), (9, .borrow)])] }
theorem onetime_Run_l2_s (a1 : Int) (a2 : Int) (a3 : Int) (a4 : Int) (a5 : Int) : stepC Tryz.prog onetime_Run_C onetime_Run_FH [] [] 0 ((loopsAt 2 (codeOf Tryz.f174)).headD .skip) onetime_Run_l2p onetime_Run_l2x { keep := [0, 1, 3, 4, 11] } { keep := [4, 10] } (a1, a2, a3, a4, a5) _ some = onetime_Run_l2 (a1, a2, a3, a4, a5) := by kernel_rfl
theorem onetime_Run_l2_t : ToldC Tryz.prog 0 (codeOf Tryz.f174) ((2, toldL onetime_Run_l2p onetime_Run_l2x onetime_Run_l2) :: []) [] :=
  ToldC.loop onetime_Run_FH 0 (ToldC.nil 0) onetime_Run_Cok 2 ((loopsAt 2 (codeOf Tryz.f174)).headD .skip) (by kernel_rfl) (p := onetime_Run_l2p) (px := onetime_Run_l2x) (g := onetime_Run_l2) (hi := { keep := [0, 1, 3, 4, 11] }) (ho := { keep := [4, 10] }) (by kernel_rfl) fun (x : (Int × Int × Int × Int × Int)) => onetime_Run_l2_s x.1 x.2.1 x.2.2.1 x.2.2.2.1 x.2.2.2.2
theorem onetime_Run_b (a1 : Int) (a2 : Int) (a3 : Int) (a4 : Int) (a5 : Int) : bodyC Tryz.prog onetime_Run_C onetime_Run_FH ((2, toldL onetime_Run_l2p onetime_Run_l2x onetime_Run_l2) :: []) [] { keep := [] } 174 onetime_Run_P onetime_Run_H onetime_Run_R onetime_Run_G (a1, a2, a3, a4, a5) _ some = onetime_Run a1 a2 a3 a4 a5 := by kernel_rfl
theorem onetime_Run_ok : EntOK Tryz.prog 174 (ent onetime_Run_P onetime_Run_H onetime_Run_R onetime_Run_G (onetime_Run_V (onetime_Run))) :=
  ent_ok onetime_Run_FH onetime_Run_Cok (hp := onetime_Run_H) (fn := Tryz.f174) (by kernel_rfl) onetime_Run_l2_t fun (x : (Int × Int × Int × Int × Int)) => onetime_Run_b x.1 x.2.1 x.2.2.1 x.2.2.2.1 x.2.2.2.2

/-! onetime_at: passkey/onetime.at -/
noncomputable def onetime_at_l2p : SP := { n := 25, ix := [0, 1, 5, 6, 8], p := (.cons (.int .u64) (.cons (.int .i64) (.cons (.ptr 0 0) (.cons (.ptr 1 0) (.int .i64))))), hp := [(.ints .i64 18), (.ints .u64 18)] }
noncomputable def onetime_at_l2x : List (Ex × SP) := [((.exit 0), { n := 25, ix := [6], p := (.ptr 0 0), hp := [(.ints .u64 18)] })]
noncomputable def onetime_at_P : Pt := (.cons (.int .u64) (.cons (.int .i64) (.arr .i64 18)))
noncomputable def onetime_at_H : List Po := []
noncomputable def onetime_at_R : Pt := (.arr .u64 18)
noncomputable def onetime_at_G : List Po := []
noncomputable def onetime_at_V (f : Int → Int → (List Int) → Option (List Int)) (x : (Int × Int × List Int)) : Option (List Int) := f x.1 x.2.1 x.2.2
noncomputable def onetime_at_C : Cal := tbl [(175, (ent onetime_Secret_P onetime_Secret_H onetime_Secret_R onetime_Secret_G (onetime_Secret_V (onetime_Secret)))), (174, (ent onetime_Run_P onetime_Run_H onetime_Run_R onetime_Run_G (onetime_Run_V (onetime_Run))))]
theorem onetime_at_Cok : CalOK Tryz.prog onetime_at_C ∧ CalNt onetime_at_C := by
  unfold onetime_at_C
  exact tbl_ok (by
    intro p hp
    simp only [List.mem_cons, List.not_mem_nil, or_false] at hp
    rcases hp with rfl | rfl
    · exact onetime_Secret_ok
    · exact onetime_Run_ok)
noncomputable def onetime_at_FH : FH := { loops := [(2, { keep := [0, 1, 5, 6, 8] }, { keep := [6] })], see := [(4, [(4, [0]), (5, [0]), (9, [])])] }
theorem onetime_at_l2_s (a1 : Int) (a2 : Int) (a3 : Int) (a4 : List Int) (a5 : List Int) : stepC Tryz.prog onetime_at_C onetime_at_FH [] [] 0 ((loopsAt 2 (codeOf Tryz.f161)).headD .skip) onetime_at_l2p onetime_at_l2x { keep := [0, 1, 5, 6, 8] } { keep := [6] } ((a1, a2, (), (), a3), (a4, a5)) _ some = onetime_at_l2 ((a1, a2, (), (), a3), (a4, a5)) := by kernel_rfl
theorem onetime_at_l2_t : ToldC Tryz.prog 0 (codeOf Tryz.f161) ((2, toldL onetime_at_l2p onetime_at_l2x onetime_at_l2) :: []) [] :=
  ToldC.loop onetime_at_FH 0 (ToldC.nil 0) onetime_at_Cok 2 ((loopsAt 2 (codeOf Tryz.f161)).headD .skip) (by kernel_rfl) (p := onetime_at_l2p) (px := onetime_at_l2x) (g := onetime_at_l2) (hi := { keep := [0, 1, 5, 6, 8] }) (ho := { keep := [6] }) (by kernel_rfl) fun (x : ((Int × Int × Unit × Unit × Int) × (List Int × List Int))) => onetime_at_l2_s x.1.1 x.1.2.1 x.1.2.2.2.2 x.2.1 x.2.2
theorem onetime_at_b (a1 : Int) (a2 : Int) (a3 : List Int) : bodyC Tryz.prog onetime_at_C onetime_at_FH ((2, toldL onetime_at_l2p onetime_at_l2x onetime_at_l2) :: []) [] { keep := [] } 161 onetime_at_P onetime_at_H onetime_at_R onetime_at_G (a1, a2, a3) _ some = onetime_at a1 a2 a3 := by kernel_rfl
theorem onetime_at_ok : EntOK Tryz.prog 161 (ent onetime_at_P onetime_at_H onetime_at_R onetime_at_G (onetime_at_V (onetime_at))) :=
  ent_ok onetime_at_FH onetime_at_Cok (hp := onetime_at_H) (fn := Tryz.f161) (by kernel_rfl) onetime_at_l2_t fun (x : (Int × Int × List Int)) => onetime_at_b x.1 x.2.1 x.2.2

/-! onetime_word: passkey/onetime.word -/
noncomputable def onetime_word_P : Pt := (.cons (.int .i64) (.arr .u64 18))
noncomputable def onetime_word_H : List Po := []
noncomputable def onetime_word_R : Pt := (.int .u64)
noncomputable def onetime_word_G : List Po := []
noncomputable def onetime_word_V (f : Int → (List Int) → Option Int) (x : (Int × List Int)) : Option Int := f x.1 x.2
noncomputable def onetime_word_C : Cal := tbl [(82, (ent digest_Words_P digest_Words_H digest_Words_R digest_Words_G (digest_Words_V (digest_Words)))), (65, (ent digest_Hash_P digest_Hash_H digest_Hash_R digest_Hash_G (digest_Hash_V (digest_Hash))))]
theorem onetime_word_Cok : CalOK Tryz.prog onetime_word_C ∧ CalNt onetime_word_C := by
  unfold onetime_word_C
  exact tbl_ok (by
    intro p hp
    simp only [List.mem_cons, List.not_mem_nil, or_false] at hp
    rcases hp with rfl | rfl
    · exact digest_Words_ok
    · exact digest_Hash_ok)
noncomputable def onetime_word_FH : FH := { ops := [(1, [(5, .borrow), (6, .borrow)])] }
theorem onetime_word_b (a1 : Int) (a2 : List Int) : bodyC Tryz.prog onetime_word_C onetime_word_FH [] [] { keep := [] } 160 onetime_word_P onetime_word_H onetime_word_R onetime_word_G (a1, a2) _ some = onetime_word a1 a2 := by kernel_rfl
theorem onetime_word_ok : EntOK Tryz.prog 160 (ent onetime_word_P onetime_word_H onetime_word_R onetime_word_G (onetime_word_V (onetime_word))) :=
  ent_ok onetime_word_FH onetime_word_Cok (hp := onetime_word_H) (fn := Tryz.f160) (by kernel_rfl) (ToldC.nil 0) fun (x : (Int × List Int)) => onetime_word_b x.1 x.2

/-! onetime_Public: passkey/onetime.Public -/
noncomputable def onetime_Public_l3p : SP := { n := 19, ix := [0, 1, 5, 7], p := (.cons (.int .u64) (.cons (.int .i64) (.cons (.ptr 0 0) (.int .i64)))), hp := [(.ints .i64 18)] }
noncomputable def onetime_Public_l3x : List (Ex × SP) := [((.exit 0), { n := 19, ix := [0, 1, 5], p := (.cons (.int .u64) (.cons (.int .i64) (.ptr 0 0))), hp := [(.ints .i64 18)] })]
noncomputable def onetime_Public_P : Pt := (.cons (.int .u64) (.int .i64))
noncomputable def onetime_Public_H : List Po := []
noncomputable def onetime_Public_R : Pt := (.int .u64)
noncomputable def onetime_Public_G : List Po := []
noncomputable def onetime_Public_V (f : Int → Int → Option Int) (x : (Int × Int)) : Option Int := f x.1 x.2
noncomputable def onetime_Public_C : Cal := tbl [(161, (ent onetime_at_P onetime_at_H onetime_at_R onetime_at_G (onetime_at_V (onetime_at)))), (160, (ent onetime_word_P onetime_word_H onetime_word_R onetime_word_G (onetime_word_V (onetime_word))))]
theorem onetime_Public_Cok : CalOK Tryz.prog onetime_Public_C ∧ CalNt onetime_Public_C := by
  unfold onetime_Public_C
  exact tbl_ok (by
    intro p hp
    simp only [List.mem_cons, List.not_mem_nil, or_false] at hp
    rcases hp with rfl | rfl
    · exact onetime_at_ok
    · exact onetime_word_ok)
noncomputable def onetime_Public_FH : FH := { loops := [(3, { keep := [0, 1, 5, 7] }, { keep := [0, 1, 4, 5] })] }
theorem onetime_Public_l3_s (a1 : Int) (a2 : Int) (a3 : Int) (a4 : List Int) : stepC Tryz.prog onetime_Public_C onetime_Public_FH [] [] 0 ((loopsAt 3 (codeOf Tryz.f129)).headD .skip) onetime_Public_l3p onetime_Public_l3x { keep := [0, 1, 5, 7] } { keep := [0, 1, 4, 5] } ((a1, a2, (), a3), a4) _ some = onetime_Public_l3 ((a1, a2, (), a3), a4) := by kernel_rfl
theorem onetime_Public_l3_t : ToldC Tryz.prog 0 (codeOf Tryz.f129) ((3, toldL onetime_Public_l3p onetime_Public_l3x onetime_Public_l3) :: []) [] :=
  ToldC.loop onetime_Public_FH 0 (ToldC.nil 0) onetime_Public_Cok 3 ((loopsAt 3 (codeOf Tryz.f129)).headD .skip) (by kernel_rfl) (p := onetime_Public_l3p) (px := onetime_Public_l3x) (g := onetime_Public_l3) (hi := { keep := [0, 1, 5, 7] }) (ho := { keep := [0, 1, 4, 5] }) (by kernel_rfl) fun (x : ((Int × Int × Unit × Int) × List Int)) => onetime_Public_l3_s x.1.1 x.1.2.1 x.1.2.2.2 x.2
theorem onetime_Public_b (a1 : Int) (a2 : Int) : bodyC Tryz.prog onetime_Public_C onetime_Public_FH ((3, toldL onetime_Public_l3p onetime_Public_l3x onetime_Public_l3) :: []) [] { keep := [] } 129 onetime_Public_P onetime_Public_H onetime_Public_R onetime_Public_G (a1, a2) _ some = onetime_Public a1 a2 := by kernel_rfl
theorem onetime_Public_ok : EntOK Tryz.prog 129 (ent onetime_Public_P onetime_Public_H onetime_Public_R onetime_Public_G (onetime_Public_V (onetime_Public))) :=
  ent_ok onetime_Public_FH onetime_Public_Cok (hp := onetime_Public_H) (fn := Tryz.f129) (by kernel_rfl) onetime_Public_l3_t fun (x : (Int × Int)) => onetime_Public_b x.1 x.2

/-! treekey_node: passkey/treekey.node -/
noncomputable def treekey_node_P : Pt := (.cons (.int .i64) (.cons (.int .u64) (.int .u64)))
noncomputable def treekey_node_H : List Po := []
noncomputable def treekey_node_R : Pt := (.int .u64)
noncomputable def treekey_node_G : List Po := []
noncomputable def treekey_node_V (f : Int → Int → Int → Option Int) (x : (Int × Int × Int)) : Option Int := f x.1 x.2.1 x.2.2
noncomputable def treekey_node_C : Cal := tbl [(82, (ent digest_Words_P digest_Words_H digest_Words_R digest_Words_G (digest_Words_V (digest_Words)))), (65, (ent digest_Hash_P digest_Hash_H digest_Hash_R digest_Hash_G (digest_Hash_V (digest_Hash))))]
theorem treekey_node_Cok : CalOK Tryz.prog treekey_node_C ∧ CalNt treekey_node_C := by
  unfold treekey_node_C
  exact tbl_ok (by
    intro p hp
    simp only [List.mem_cons, List.not_mem_nil, or_false] at hp
    rcases hp with rfl | rfl
    · exact digest_Words_ok
    · exact digest_Hash_ok)
noncomputable def treekey_node_FH : FH := { ops := [(1, [(5, .borrow), (6, .borrow)])] }
theorem treekey_node_b (a1 : Int) (a2 : Int) (a3 : Int) : bodyC Tryz.prog treekey_node_C treekey_node_FH [] [] { keep := [] } 130 treekey_node_P treekey_node_H treekey_node_R treekey_node_G (a1, a2, a3) _ some = treekey_node a1 a2 a3 := by kernel_rfl
theorem treekey_node_ok : EntOK Tryz.prog 130 (ent treekey_node_P treekey_node_H treekey_node_R treekey_node_G (treekey_node_V (treekey_node))) :=
  ent_ok treekey_node_FH treekey_node_Cok (hp := treekey_node_H) (fn := Tryz.f130) (by kernel_rfl) (ToldC.nil 0) fun (x : (Int × Int × Int)) => treekey_node_b x.1 x.2.1 x.2.2

/-! treekey_levels: passkey/treekey.levels -/
noncomputable def treekey_levels_l3p : SP := { n := 65, ix := [0, 1, 5, 15, 16], p := (.cons (.int .u64) (.cons (.int .i64) (.cons (.ref 0) (.cons (.int .i64) (.int .i64))))), hp := [(.arrN 1 22 .u64)] }
noncomputable def treekey_levels_l3x : List (Ex × SP) := [((.exit 0), { n := 65, ix := [1, 5], p := (.cons (.int .i64) (.ref 0)), hp := [(.arrN 1 22 .u64)] })]
noncomputable def treekey_levels_l13p : SP := { n := 65, ix := [1, 5, 7, 8, 9, 38, 39], p := (.cons (.int .i64) (.cons (.nums .u64) (.cons (.ref 0) (.cons (.int .i64) (.cons (.ref 1) (.cons (.int .i64) (.int .i64))))))), hp := [(.arrS 1 64 1), (.arrN 1 22 .u64)] }
noncomputable def treekey_levels_l13x : List (Ex × SP) := [((.exit 4), { n := 65, ix := [1, 7, 8, 9], p := (.cons (.int .i64) (.cons (.ref 0) (.cons (.int .i64) (.ref 1)))), hp := [(.arrS 1 64 1), (.arrN 1 22 .u64)] })]
noncomputable def treekey_levels_l9p : SP := { n := 65, ix := [1, 5, 7, 8], p := (.cons (.int .i64) (.cons (.nums .u64) (.cons (.ref 0) (.int .i64)))), hp := [(.arrS 1 64 1)] }
noncomputable def treekey_levels_l9x : List (Ex × SP) := [((.exit 2), { n := 65, ix := [7], p := (.ref 0), hp := [(.arrS 1 64 1)] })]
noncomputable def treekey_levels_P : Pt := (.cons (.int .u64) (.int .i64))
noncomputable def treekey_levels_H : List Po := []
noncomputable def treekey_levels_R : Pt := (.ref 0)
noncomputable def treekey_levels_G : List Po := [(.arrS 1 64 1)]
noncomputable def treekey_levels_V (f : Int → Int → Option (Unit × List PD)) (x : (Int × Int)) : Option (Unit × List PD) := f x.1 x.2
noncomputable def treekey_levels_C : Cal := tbl [(129, (ent onetime_Public_P onetime_Public_H onetime_Public_R onetime_Public_G (onetime_Public_V (onetime_Public)))), (130, (ent treekey_node_P treekey_node_H treekey_node_R treekey_node_G (treekey_node_V (treekey_node))))]
theorem treekey_levels_Cok : CalOK Tryz.prog treekey_levels_C ∧ CalNt treekey_levels_C := by
  unfold treekey_levels_C
  exact tbl_ok (by
    intro p hp
    simp only [List.mem_cons, List.not_mem_nil, or_false] at hp
    rcases hp with rfl | rfl
    · exact onetime_Public_ok
    · exact treekey_node_ok)
noncomputable def treekey_levels_FH : FH := { loops := [(3, { keep := [0, 1, 5, 15, 16] }, { keep := [1, 4, 5] }), (13, { keep := [1, 5, 7, 8, 9, 38, 39] }, { keep := [1, 4, 5, 7, 8, 9] }), (9, { keep := [1, 5, 7, 8] }, { keep := [4, 7] })], ops := [(15, [(6, .cold), (7, .cold), (12, .cold), (13, .cold)])], see := [(15, [(6, []), (7, []), (12, []), (13, [])])] }
theorem treekey_levels_l3_s (a1 : Int) (a2 : Int) (a3 : Int) (a4 : Int) (a5 : List Int) : stepC Tryz.prog treekey_levels_C treekey_levels_FH [] [] 0 ((loopsAt 3 (codeOf Tryz.f102)).headD .skip) treekey_levels_l3p treekey_levels_l3x { keep := [0, 1, 5, 15, 16] } { keep := [1, 4, 5] } ((a1, a2, (), a3, a4), a5) _ some = treekey_levels_l3 ((a1, a2, (), a3, a4), a5) := by kernel_rfl
theorem treekey_levels_l3_t : ToldC Tryz.prog 0 (codeOf Tryz.f102) ((3, toldL treekey_levels_l3p treekey_levels_l3x treekey_levels_l3) :: []) [] :=
  ToldC.loop treekey_levels_FH 0 (ToldC.nil 0) treekey_levels_Cok 3 ((loopsAt 3 (codeOf Tryz.f102)).headD .skip) (by kernel_rfl) (p := treekey_levels_l3p) (px := treekey_levels_l3x) (g := treekey_levels_l3) (hi := { keep := [0, 1, 5, 15, 16] }) (ho := { keep := [1, 4, 5] }) (by kernel_rfl) fun (x : ((Int × Int × Unit × Int × Int) × List Int)) => treekey_levels_l3_s x.1.1 x.1.2.1 x.1.2.2.2.1 x.1.2.2.2.2 x.2
theorem treekey_levels_l13_s (a1 : Int) (a2 : List Int) (a3 : Int) (a4 : Int) (a5 : Int) (a6 : List PD) (a7 : List Int) : stepC Tryz.prog treekey_levels_C treekey_levels_FH ((3, toldL treekey_levels_l3p treekey_levels_l3x treekey_levels_l3) :: []) [] 0 ((loopsAt 13 (codeOf Tryz.f102)).headD .skip) treekey_levels_l13p treekey_levels_l13x { keep := [1, 5, 7, 8, 9, 38, 39] } { keep := [1, 4, 5, 7, 8, 9] } ((a1, a2, (), a3, (), a4, a5), (a6, a7)) _ some = treekey_levels_l13 ((a1, a2, (), a3, (), a4, a5), (a6, a7)) := by kernel_rfl
theorem treekey_levels_l13_t : ToldC Tryz.prog 0 (codeOf Tryz.f102) ((13, toldL treekey_levels_l13p treekey_levels_l13x treekey_levels_l13) :: ((3, toldL treekey_levels_l3p treekey_levels_l3x treekey_levels_l3) :: [])) [] :=
  ToldC.loop treekey_levels_FH 0 treekey_levels_l3_t treekey_levels_Cok 13 ((loopsAt 13 (codeOf Tryz.f102)).headD .skip) (by kernel_rfl) (p := treekey_levels_l13p) (px := treekey_levels_l13x) (g := treekey_levels_l13) (hi := { keep := [1, 5, 7, 8, 9, 38, 39] }) (ho := { keep := [1, 4, 5, 7, 8, 9] }) (by kernel_rfl) fun (x : ((Int × List Int × Unit × Int × Unit × Int × Int) × (List PD × List Int))) => treekey_levels_l13_s x.1.1 x.1.2.1 x.1.2.2.2.1 x.1.2.2.2.2.2.1 x.1.2.2.2.2.2.2 x.2.1 x.2.2
theorem treekey_levels_l9_s (a1 : Int) (a2 : List Int) (a3 : Int) (a4 : List PD) : stepC Tryz.prog treekey_levels_C treekey_levels_FH ((13, toldL treekey_levels_l13p treekey_levels_l13x treekey_levels_l13) :: ((3, toldL treekey_levels_l3p treekey_levels_l3x treekey_levels_l3) :: [])) [] 0 ((loopsAt 9 (codeOf Tryz.f102)).headD .skip) treekey_levels_l9p treekey_levels_l9x { keep := [1, 5, 7, 8] } { keep := [4, 7] } ((a1, a2, (), a3), a4) _ some = treekey_levels_l9 ((a1, a2, (), a3), a4) := by kernel_rfl
theorem treekey_levels_l9_t : ToldC Tryz.prog 0 (codeOf Tryz.f102) ((9, toldL treekey_levels_l9p treekey_levels_l9x treekey_levels_l9) :: ((13, toldL treekey_levels_l13p treekey_levels_l13x treekey_levels_l13) :: ((3, toldL treekey_levels_l3p treekey_levels_l3x treekey_levels_l3) :: []))) [] :=
  ToldC.loop treekey_levels_FH 0 treekey_levels_l13_t treekey_levels_Cok 9 ((loopsAt 9 (codeOf Tryz.f102)).headD .skip) (by kernel_rfl) (p := treekey_levels_l9p) (px := treekey_levels_l9x) (g := treekey_levels_l9) (hi := { keep := [1, 5, 7, 8] }) (ho := { keep := [4, 7] }) (by kernel_rfl) fun (x : ((Int × List Int × Unit × Int) × List PD)) => treekey_levels_l9_s x.1.1 x.1.2.1 x.1.2.2.2 x.2
theorem treekey_levels_b (a1 : Int) (a2 : Int) : bodyC Tryz.prog treekey_levels_C treekey_levels_FH ((9, toldL treekey_levels_l9p treekey_levels_l9x treekey_levels_l9) :: ((13, toldL treekey_levels_l13p treekey_levels_l13x treekey_levels_l13) :: ((3, toldL treekey_levels_l3p treekey_levels_l3x treekey_levels_l3) :: []))) [] { keep := [] } 102 treekey_levels_P treekey_levels_H treekey_levels_R treekey_levels_G (a1, a2) _ some = treekey_levels a1 a2 := by kernel_rfl
theorem treekey_levels_ok : EntOK Tryz.prog 102 (ent treekey_levels_P treekey_levels_H treekey_levels_R treekey_levels_G (treekey_levels_V (treekey_levels))) :=
  ent_ok treekey_levels_FH treekey_levels_Cok (hp := treekey_levels_H) (fn := Tryz.f102) (by kernel_rfl) treekey_levels_l9_t fun (x : (Int × Int)) => treekey_levels_b x.1 x.2

/-! treekey_Public: passkey/treekey.Public -/
noncomputable def treekey_Public_P : Pt := (.cons (.int .u64) (.int .i64))
noncomputable def treekey_Public_H : List Po := []
noncomputable def treekey_Public_R : Pt := (.tup (.cons (.agg (.cons (.int .i64) (.int .u64))) (.int .i64)))
noncomputable def treekey_Public_G : List Po := []
noncomputable def treekey_Public_V (f : Int → Int → Option ((Int × Int) × Int)) (x : (Int × Int)) : Option ((Int × Int) × Int) := f x.1 x.2
noncomputable def treekey_Public_C : Cal := tbl [(101, (ent treekey_tall_P treekey_tall_H treekey_tall_R treekey_tall_G (treekey_tall_V (treekey_tall)))), (102, (ent treekey_levels_P treekey_levels_H treekey_levels_R treekey_levels_G (treekey_levels_V (treekey_levels))))]
theorem treekey_Public_Cok : CalOK Tryz.prog treekey_Public_C ∧ CalNt treekey_Public_C := by
  unfold treekey_Public_C
  exact tbl_ok (by
    intro p hp
    simp only [List.mem_cons, List.not_mem_nil, or_false] at hp
    rcases hp with rfl | rfl
    · exact treekey_tall_ok
    · exact treekey_levels_ok)
noncomputable def treekey_Public_FH : FH := {}
theorem treekey_Public_b (a1 : Int) (a2 : Int) : bodyC Tryz.prog treekey_Public_C treekey_Public_FH [] [] { keep := [] } 68 treekey_Public_P treekey_Public_H treekey_Public_R treekey_Public_G (a1, a2) _ some = treekey_Public a1 a2 := by kernel_rfl
theorem treekey_Public_ok : EntOK Tryz.prog 68 (ent treekey_Public_P treekey_Public_H treekey_Public_R treekey_Public_G (treekey_Public_V (treekey_Public))) :=
  ent_ok treekey_Public_FH treekey_Public_Cok (hp := treekey_Public_H) (fn := Tryz.f68) (by kernel_rfl) (ToldC.nil 0) fun (x : (Int × Int)) => treekey_Public_b x.1 x.2

/-! credential_Key: passkey/credential.Key -/
noncomputable def credential_Key_P : Pt := (.agg (.cons .str (.cons .str (.cons .str (.cons (.int .u64) (.cons (.int .i64) (.cons .bool (.cons (.int .i64) (.cons .bool .bool)))))))))
noncomputable def credential_Key_H : List Po := []
noncomputable def credential_Key_R : Pt := (.tup (.cons (.agg (.cons (.int .i64) (.int .u64))) (.int .i64)))
noncomputable def credential_Key_G : List Po := []
noncomputable def credential_Key_V (f : ByteArray → ByteArray → ByteArray → Int → Int → Bool → Int → Bool → Bool → Option ((Int × Int) × Int)) (x : (ByteArray × ByteArray × ByteArray × Int × Int × Bool × Int × Bool × Bool)) : Option ((Int × Int) × Int) := f x.1 x.2.1 x.2.2.1 x.2.2.2.1 x.2.2.2.2.1 x.2.2.2.2.2.1 x.2.2.2.2.2.2.1 x.2.2.2.2.2.2.2.1 x.2.2.2.2.2.2.2.2
noncomputable def credential_Key_C : Cal := tbl [(15, (ent credential_Validate_P credential_Validate_H credential_Validate_R credential_Validate_G (credential_Validate_V (credential_Validate)))), (68, (ent treekey_Public_P treekey_Public_H treekey_Public_R treekey_Public_G (treekey_Public_V (treekey_Public))))]
theorem credential_Key_Cok : CalOK Tryz.prog credential_Key_C ∧ CalNt credential_Key_C := by
  unfold credential_Key_C
  exact tbl_ok (by
    intro p hp
    simp only [List.mem_cons, List.not_mem_nil, or_false] at hp
    rcases hp with rfl | rfl
    · exact credential_Validate_ok
    · exact treekey_Public_ok)
noncomputable def credential_Key_FH : FH := {}
theorem credential_Key_b (a1 : ByteArray) (a2 : ByteArray) (a3 : ByteArray) (a4 : Int) (a5 : Int) (a6 : Bool) (a7 : Int) (a8 : Bool) (a9 : Bool) : bodyC Tryz.prog credential_Key_C credential_Key_FH [] [] { keep := [] } 34 credential_Key_P credential_Key_H credential_Key_R credential_Key_G (a1, a2, a3, a4, a5, a6, a7, a8, a9) _ some = credential_Key a1 a2 a3 a4 a5 a6 a7 a8 a9 := by kernel_rfl
theorem credential_Key_ok : EntOK Tryz.prog 34 (ent credential_Key_P credential_Key_H credential_Key_R credential_Key_G (credential_Key_V (credential_Key))) :=
  ent_ok credential_Key_FH credential_Key_Cok (hp := credential_Key_H) (fn := Tryz.f34) (by kernel_rfl) (ToldC.nil 0) fun (x : (ByteArray × ByteArray × ByteArray × Int × Int × Bool × Int × Bool × Bool)) => credential_Key_b x.1 x.2.1 x.2.2.1 x.2.2.2.1 x.2.2.2.2.1 x.2.2.2.2.2.1 x.2.2.2.2.2.2.1 x.2.2.2.2.2.2.2.1 x.2.2.2.2.2.2.2.2

/-! ref3_height: passkey/passkeyref3.height -/
noncomputable def ref3_height_P : Pt := (.int .i64)
noncomputable def ref3_height_H : List Po := []
noncomputable def ref3_height_R : Pt := .bool
noncomputable def ref3_height_G : List Po := []
noncomputable def ref3_height_V (f : Int → Option Bool) (x : Int) : Option Bool := f x
noncomputable def ref3_height_C : Cal := tbl []
theorem ref3_height_Cok : CalOK Tryz.prog ref3_height_C ∧ CalNt ref3_height_C := by
  unfold ref3_height_C
  exact tbl_ok (by intro p hp; simp at hp)
noncomputable def ref3_height_FH : FH := {}
theorem ref3_height_b (a1 : Int) : bodyC Tryz.prog ref3_height_C ref3_height_FH [] [] { keep := [] } 103 ref3_height_P ref3_height_H ref3_height_R ref3_height_G a1 _ some = ref3_height a1 := by kernel_rfl
theorem ref3_height_ok : EntOK Tryz.prog 103 (ent ref3_height_P ref3_height_H ref3_height_R ref3_height_G (ref3_height_V (ref3_height))) :=
  ent_ok ref3_height_FH ref3_height_Cok (hp := ref3_height_H) (fn := Tryz.f103) (by kernel_rfl) (ToldC.nil 0) fun (x : Int) => ref3_height_b x

/-! ref3_Secret: passkey/passkeyref3.Secret -/
noncomputable def ref3_Secret_P : Pt := (.cons (.int .u64) (.cons (.int .i64) (.int .i64)))
noncomputable def ref3_Secret_H : List Po := []
noncomputable def ref3_Secret_R : Pt := (.int .u64)
noncomputable def ref3_Secret_G : List Po := []
noncomputable def ref3_Secret_V (f : Int → Int → Int → Option Int) (x : (Int × Int × Int)) : Option Int := f x.1 x.2.1 x.2.2
noncomputable def ref3_Secret_C : Cal := tbl [(20, (ent ref1_Words_P ref1_Words_H ref1_Words_R ref1_Words_G (ref1_Words_V (ref1_Words)))), (53, (ent ref1_Mac_P ref1_Mac_H ref1_Mac_R ref1_Mac_G (ref1_Mac_V (ref1_Mac))))]
theorem ref3_Secret_Cok : CalOK Tryz.prog ref3_Secret_C ∧ CalNt ref3_Secret_C := by
  unfold ref3_Secret_C
  exact tbl_ok (by
    intro p hp
    simp only [List.mem_cons, List.not_mem_nil, or_false] at hp
    rcases hp with rfl | rfl
    · exact ref1_Words_ok
    · exact ref1_Mac_ok)
noncomputable def ref3_Secret_FH : FH := { ops := [(1, [(6, .borrow), (7, .borrow)])] }
theorem ref3_Secret_b (a1 : Int) (a2 : Int) (a3 : Int) : bodyC Tryz.prog ref3_Secret_C ref3_Secret_FH [] [] { keep := [] } 163 ref3_Secret_P ref3_Secret_H ref3_Secret_R ref3_Secret_G (a1, a2, a3) _ some = ref3_Secret a1 a2 a3 := by kernel_rfl
theorem ref3_Secret_ok : EntOK Tryz.prog 163 (ent ref3_Secret_P ref3_Secret_H ref3_Secret_R ref3_Secret_G (ref3_Secret_V (ref3_Secret))) :=
  ent_ok ref3_Secret_FH ref3_Secret_Cok (hp := ref3_Secret_H) (fn := Tryz.f163) (by kernel_rfl) (ToldC.nil 0) fun (x : (Int × Int × Int)) => ref3_Secret_b x.1 x.2.1 x.2.2

/-! ref3_Run: passkey/passkeyref3.Run -/
noncomputable def ref3_Run_l2p : SP := { n := 31, ix := [0, 1, 3, 4, 11], p := (.cons (.int .i64) (.cons (.int .i64) (.cons (.int .i64) (.cons (.int .u64) (.int .i64))))) }
noncomputable def ref3_Run_l2x : List (Ex × SP) := [((.exit 0), { n := 31, ix := [4], p := (.int .u64) })]
noncomputable def ref3_Run_P : Pt := (.cons (.int .i64) (.cons (.int .i64) (.cons (.int .i64) (.cons (.int .i64) (.int .u64)))))
noncomputable def ref3_Run_H : List Po := []
noncomputable def ref3_Run_R : Pt := (.int .u64)
noncomputable def ref3_Run_G : List Po := []
noncomputable def ref3_Run_V (f : Int → Int → Int → Int → Int → Option Int) (x : (Int × Int × Int × Int × Int)) : Option Int := f x.1 x.2.1 x.2.2.1 x.2.2.2.1 x.2.2.2.2
noncomputable def ref3_Run_C : Cal := tbl [(20, (ent ref1_Words_P ref1_Words_H ref1_Words_R ref1_Words_G (ref1_Words_V (ref1_Words)))), (56, (ent ref1_Hash_P ref1_Hash_H ref1_Hash_R ref1_Hash_G (ref1_Hash_V (ref1_Hash))))]
theorem ref3_Run_Cok : CalOK Tryz.prog ref3_Run_C ∧ CalNt ref3_Run_C := by
  unfold ref3_Run_C
  exact tbl_ok (by
    intro p hp
    simp only [List.mem_cons, List.not_mem_nil, or_false] at hp
    rcases hp with rfl | rfl
    · exact ref1_Words_ok
    · exact ref1_Hash_ok)
noncomputable def ref3_Run_FH : FH := { loops := [(2, { keep := [0, 1, 3, 4, 11] }, { keep := [4, 10] })], ops := [(4, [(8, .borrow), (9, .borrow)])] }
theorem ref3_Run_l2_s (a1 : Int) (a2 : Int) (a3 : Int) (a4 : Int) (a5 : Int) : stepC Tryz.prog ref3_Run_C ref3_Run_FH [] [] 0 ((loopsAt 2 (codeOf Tryz.f162)).headD .skip) ref3_Run_l2p ref3_Run_l2x { keep := [0, 1, 3, 4, 11] } { keep := [4, 10] } (a1, a2, a3, a4, a5) _ some = ref3_Run_l2 (a1, a2, a3, a4, a5) := by kernel_rfl
theorem ref3_Run_l2_t : ToldC Tryz.prog 0 (codeOf Tryz.f162) ((2, toldL ref3_Run_l2p ref3_Run_l2x ref3_Run_l2) :: []) [] :=
  ToldC.loop ref3_Run_FH 0 (ToldC.nil 0) ref3_Run_Cok 2 ((loopsAt 2 (codeOf Tryz.f162)).headD .skip) (by kernel_rfl) (p := ref3_Run_l2p) (px := ref3_Run_l2x) (g := ref3_Run_l2) (hi := { keep := [0, 1, 3, 4, 11] }) (ho := { keep := [4, 10] }) (by kernel_rfl) fun (x : (Int × Int × Int × Int × Int)) => ref3_Run_l2_s x.1 x.2.1 x.2.2.1 x.2.2.2.1 x.2.2.2.2
theorem ref3_Run_b (a1 : Int) (a2 : Int) (a3 : Int) (a4 : Int) (a5 : Int) : bodyC Tryz.prog ref3_Run_C ref3_Run_FH ((2, toldL ref3_Run_l2p ref3_Run_l2x ref3_Run_l2) :: []) [] { keep := [] } 162 ref3_Run_P ref3_Run_H ref3_Run_R ref3_Run_G (a1, a2, a3, a4, a5) _ some = ref3_Run a1 a2 a3 a4 a5 := by kernel_rfl
theorem ref3_Run_ok : EntOK Tryz.prog 162 (ent ref3_Run_P ref3_Run_H ref3_Run_R ref3_Run_G (ref3_Run_V (ref3_Run))) :=
  ent_ok ref3_Run_FH ref3_Run_Cok (hp := ref3_Run_H) (fn := Tryz.f162) (by kernel_rfl) ref3_Run_l2_t fun (x : (Int × Int × Int × Int × Int)) => ref3_Run_b x.1 x.2.1 x.2.2.1 x.2.2.2.1 x.2.2.2.2

/-! ref3_ends: passkey/passkeyref3.ends -/
noncomputable def ref3_ends_P : Pt := (.cons (.int .i64) (.nums .u64))
noncomputable def ref3_ends_H : List Po := []
noncomputable def ref3_ends_R : Pt := (.int .u64)
noncomputable def ref3_ends_G : List Po := []
noncomputable def ref3_ends_V (f : Int → (List Int) → Option Int) (x : (Int × List Int)) : Option Int := f x.1 x.2
noncomputable def ref3_ends_C : Cal := tbl [(20, (ent ref1_Words_P ref1_Words_H ref1_Words_R ref1_Words_G (ref1_Words_V (ref1_Words)))), (56, (ent ref1_Hash_P ref1_Hash_H ref1_Hash_R ref1_Hash_G (ref1_Hash_V (ref1_Hash))))]
theorem ref3_ends_Cok : CalOK Tryz.prog ref3_ends_C ∧ CalNt ref3_ends_C := by
  unfold ref3_ends_C
  exact tbl_ok (by
    intro p hp
    simp only [List.mem_cons, List.not_mem_nil, or_false] at hp
    rcases hp with rfl | rfl
    · exact ref1_Words_ok
    · exact ref1_Hash_ok)
noncomputable def ref3_ends_FH : FH := { ops := [(1, [(3, .borrow), (7, .borrow)])] }
theorem ref3_ends_b (a1 : Int) (a2 : List Int) : bodyC Tryz.prog ref3_ends_C ref3_ends_FH [] [] { keep := [] } 164 ref3_ends_P ref3_ends_H ref3_ends_R ref3_ends_G (a1, a2) _ some = ref3_ends a1 a2 := by kernel_rfl
theorem ref3_ends_ok : EntOK Tryz.prog 164 (ent ref3_ends_P ref3_ends_H ref3_ends_R ref3_ends_G (ref3_ends_V (ref3_ends))) :=
  ent_ok ref3_ends_FH ref3_ends_Cok (hp := ref3_ends_H) (fn := Tryz.f164) (by kernel_rfl) (ToldC.nil 0) fun (x : (Int × List Int)) => ref3_ends_b x.1 x.2

/-! ref3_Leaf: passkey/passkeyref3.Leaf -/
noncomputable def ref3_Leaf_l3p : SP := { n := 24, ix := [0, 1, 5, 6], p := (.cons (.int .u64) (.cons (.int .i64) (.cons (.ref 0) (.int .i64)))), hp := [(.arrN 1 22 .u64)] }
noncomputable def ref3_Leaf_l3x : List (Ex × SP) := [((.exit 0), { n := 24, ix := [1, 5], p := (.cons (.int .i64) (.ref 0)), hp := [(.arrN 1 22 .u64)] })]
noncomputable def ref3_Leaf_P : Pt := (.cons (.int .u64) (.int .i64))
noncomputable def ref3_Leaf_H : List Po := []
noncomputable def ref3_Leaf_R : Pt := (.int .u64)
noncomputable def ref3_Leaf_G : List Po := []
noncomputable def ref3_Leaf_V (f : Int → Int → Option Int) (x : (Int × Int)) : Option Int := f x.1 x.2
noncomputable def ref3_Leaf_C : Cal := tbl [(163, (ent ref3_Secret_P ref3_Secret_H ref3_Secret_R ref3_Secret_G (ref3_Secret_V (ref3_Secret)))), (162, (ent ref3_Run_P ref3_Run_H ref3_Run_R ref3_Run_G (ref3_Run_V (ref3_Run)))), (164, (ent ref3_ends_P ref3_ends_H ref3_ends_R ref3_ends_G (ref3_ends_V (ref3_ends))))]
theorem ref3_Leaf_Cok : CalOK Tryz.prog ref3_Leaf_C ∧ CalNt ref3_Leaf_C := by
  unfold ref3_Leaf_C
  exact tbl_ok (by
    intro p hp
    simp only [List.mem_cons, List.not_mem_nil, or_false] at hp
    rcases hp with rfl | rfl | rfl
    · exact ref3_Secret_ok
    · exact ref3_Run_ok
    · exact ref3_ends_ok)
noncomputable def ref3_Leaf_FH : FH := { loops := [(3, { keep := [0, 1, 5, 6], own := [(5, 22)] }, { keep := [1, 4, 5] })], ops := [(6, [(2, .borrow)])] }
theorem ref3_Leaf_l3_s (a1 : Int) (a2 : Int) (a3 : Int) (a4 : List Int) : stepC Tryz.prog ref3_Leaf_C ref3_Leaf_FH [] [] 0 ((loopsAt 3 (codeOf Tryz.f131)).headD .skip) ref3_Leaf_l3p ref3_Leaf_l3x { keep := [0, 1, 5, 6], own := [(5, 22)] } { keep := [1, 4, 5] } ((a1, a2, (), a3), a4) _ some = ref3_Leaf_l3 ((a1, a2, (), a3), a4) := by kernel_rfl
theorem ref3_Leaf_l3_t : ToldC Tryz.prog 0 (codeOf Tryz.f131) ((3, toldL ref3_Leaf_l3p ref3_Leaf_l3x ref3_Leaf_l3) :: []) [] :=
  ToldC.loop ref3_Leaf_FH 0 (ToldC.nil 0) ref3_Leaf_Cok 3 ((loopsAt 3 (codeOf Tryz.f131)).headD .skip) (by kernel_rfl) (p := ref3_Leaf_l3p) (px := ref3_Leaf_l3x) (g := ref3_Leaf_l3) (hi := { keep := [0, 1, 5, 6], own := [(5, 22)] }) (ho := { keep := [1, 4, 5] }) (by kernel_rfl) fun (x : ((Int × Int × Unit × Int) × List Int)) => ref3_Leaf_l3_s x.1.1 x.1.2.1 x.1.2.2.2 x.2
theorem ref3_Leaf_b (a1 : Int) (a2 : Int) : bodyC Tryz.prog ref3_Leaf_C ref3_Leaf_FH ((3, toldL ref3_Leaf_l3p ref3_Leaf_l3x ref3_Leaf_l3) :: []) [] { keep := [] } 131 ref3_Leaf_P ref3_Leaf_H ref3_Leaf_R ref3_Leaf_G (a1, a2) _ some = ref3_Leaf a1 a2 := by kernel_rfl
theorem ref3_Leaf_ok : EntOK Tryz.prog 131 (ent ref3_Leaf_P ref3_Leaf_H ref3_Leaf_R ref3_Leaf_G (ref3_Leaf_V (ref3_Leaf))) :=
  ent_ok ref3_Leaf_FH ref3_Leaf_Cok (hp := ref3_Leaf_H) (fn := Tryz.f131) (by kernel_rfl) ref3_Leaf_l3_t fun (x : (Int × Int)) => ref3_Leaf_b x.1 x.2

/-! ref3_parent: passkey/passkeyref3.parent -/
noncomputable def ref3_parent_P : Pt := (.cons (.int .i64) (.cons (.int .u64) (.int .u64)))
noncomputable def ref3_parent_H : List Po := []
noncomputable def ref3_parent_R : Pt := (.int .u64)
noncomputable def ref3_parent_G : List Po := []
noncomputable def ref3_parent_V (f : Int → Int → Int → Option Int) (x : (Int × Int × Int)) : Option Int := f x.1 x.2.1 x.2.2
noncomputable def ref3_parent_C : Cal := tbl [(20, (ent ref1_Words_P ref1_Words_H ref1_Words_R ref1_Words_G (ref1_Words_V (ref1_Words)))), (56, (ent ref1_Hash_P ref1_Hash_H ref1_Hash_R ref1_Hash_G (ref1_Hash_V (ref1_Hash))))]
theorem ref3_parent_Cok : CalOK Tryz.prog ref3_parent_C ∧ CalNt ref3_parent_C := by
  unfold ref3_parent_C
  exact tbl_ok (by
    intro p hp
    simp only [List.mem_cons, List.not_mem_nil, or_false] at hp
    rcases hp with rfl | rfl
    · exact ref1_Words_ok
    · exact ref1_Hash_ok)
noncomputable def ref3_parent_FH : FH := { ops := [(1, [(5, .borrow), (6, .borrow)])] }
theorem ref3_parent_b (a1 : Int) (a2 : Int) (a3 : Int) : bodyC Tryz.prog ref3_parent_C ref3_parent_FH [] [] { keep := [] } 132 ref3_parent_P ref3_parent_H ref3_parent_R ref3_parent_G (a1, a2, a3) _ some = ref3_parent a1 a2 a3 := by kernel_rfl
theorem ref3_parent_ok : EntOK Tryz.prog 132 (ent ref3_parent_P ref3_parent_H ref3_parent_R ref3_parent_G (ref3_parent_V (ref3_parent))) :=
  ent_ok ref3_parent_FH ref3_parent_Cok (hp := ref3_parent_H) (fn := Tryz.f132) (by kernel_rfl) (ToldC.nil 0) fun (x : (Int × Int × Int)) => ref3_parent_b x.1 x.2.1 x.2.2

/-! ref3_node: passkey/passkeyref3.node -/
noncomputable def ref3_node_P : Pt := (.cons (.int .u64) (.cons (.int .i64) (.int .i64)))
noncomputable def ref3_node_H : List Po := []
noncomputable def ref3_node_R : Pt := (.int .u64)
noncomputable def ref3_node_G : List Po := []
noncomputable def ref3_node_V (f : Int → Int → Int → Option Int) (x : (Int × Int × Int)) : Option Int := f x.1 x.2.1 x.2.2
noncomputable def ref3_node_C (r_ref3_node : Int → Int → Int → Option Int) : Cal := tbl [(131, (ent ref3_Leaf_P ref3_Leaf_H ref3_Leaf_R ref3_Leaf_G (ref3_Leaf_V (ref3_Leaf)))), (104, (ent ref3_node_P ref3_node_H ref3_node_R ref3_node_G (ref3_node_V r_ref3_node))), (132, (ent ref3_parent_P ref3_parent_H ref3_parent_R ref3_parent_G (ref3_parent_V (ref3_parent))))]
theorem ref3_node_Cok (r_ref3_node : Int → Int → Int → Option Int) (h_ref3_node : EntOK Tryz.prog 104 (ent ref3_node_P ref3_node_H ref3_node_R ref3_node_G (ref3_node_V r_ref3_node))) : CalOK Tryz.prog (ref3_node_C r_ref3_node) ∧ CalNt (ref3_node_C r_ref3_node) := by
  unfold ref3_node_C
  exact tbl_ok (by
    intro p hp
    simp only [List.mem_cons, List.not_mem_nil, or_false] at hp
    rcases hp with rfl | rfl | rfl
    · exact ref3_Leaf_ok
    · exact h_ref3_node
    · exact ref3_parent_ok)
noncomputable def ref3_node_FH : FH := {}
theorem ref3_node_b (r_ref3_node : Int → Int → Int → Option Int) (a1 : Int) (a2 : Int) (a3 : Int) : bodyC Tryz.prog (ref3_node_C r_ref3_node) ref3_node_FH [] [] { keep := [] } 104 ref3_node_P ref3_node_H ref3_node_R ref3_node_G (a1, a2, a3) _ some = ref3_node_F r_ref3_node a1 a2 a3 := by kernel_rfl
theorem ref3_node_Fok (r_ref3_node : Int → Int → Int → Option Int) (h_ref3_node : EntOK Tryz.prog 104 (ent ref3_node_P ref3_node_H ref3_node_R ref3_node_G (ref3_node_V r_ref3_node))) : EntOK Tryz.prog 104 (ent ref3_node_P ref3_node_H ref3_node_R ref3_node_G (ref3_node_V (ref3_node_F r_ref3_node))) :=
  ent_ok ref3_node_FH (ref3_node_Cok r_ref3_node h_ref3_node) (hp := ref3_node_H) (fn := Tryz.f104) (by kernel_rfl) (ToldC.nil 0) fun (x : (Int × Int × Int)) => ref3_node_b r_ref3_node x.1 x.2.1 x.2.2
theorem ref3_node_nok : ∀ n, EntOK Tryz.prog 104 (ent ref3_node_P ref3_node_H ref3_node_R ref3_node_G (ref3_node_V (ref3_node_n n)))
  | 0 => ent_of fun x y h => by cases h
  | n + 1 => ref3_node_Fok (ref3_node_n n) (ref3_node_nok n)
theorem ref3_node_ok : EntOK Tryz.prog 104 (ent ref3_node_P ref3_node_H ref3_node_R ref3_node_G (ref3_node_V (ref3_node))) := ref3_node_nok 40

/-! ref3_Public: passkey/passkeyref3.Public -/
noncomputable def ref3_Public_P : Pt := (.cons (.int .u64) (.int .i64))
noncomputable def ref3_Public_H : List Po := []
noncomputable def ref3_Public_R : Pt := (.tup (.cons (.agg (.cons (.int .i64) (.int .u64))) (.int .i64)))
noncomputable def ref3_Public_G : List Po := []
noncomputable def ref3_Public_V (f : Int → Int → Option ((Int × Int) × Int)) (x : (Int × Int)) : Option ((Int × Int) × Int) := f x.1 x.2
noncomputable def ref3_Public_C : Cal := tbl [(103, (ent ref3_height_P ref3_height_H ref3_height_R ref3_height_G (ref3_height_V (ref3_height)))), (104, (ent ref3_node_P ref3_node_H ref3_node_R ref3_node_G (ref3_node_V (ref3_node))))]
theorem ref3_Public_Cok : CalOK Tryz.prog ref3_Public_C ∧ CalNt ref3_Public_C := by
  unfold ref3_Public_C
  exact tbl_ok (by
    intro p hp
    simp only [List.mem_cons, List.not_mem_nil, or_false] at hp
    rcases hp with rfl | rfl
    · exact ref3_height_ok
    · exact ref3_node_ok)
noncomputable def ref3_Public_FH : FH := {}
theorem ref3_Public_b (a1 : Int) (a2 : Int) : bodyC Tryz.prog ref3_Public_C ref3_Public_FH [] [] { keep := [] } 69 ref3_Public_P ref3_Public_H ref3_Public_R ref3_Public_G (a1, a2) _ some = ref3_Public a1 a2 := by kernel_rfl
theorem ref3_Public_ok : EntOK Tryz.prog 69 (ent ref3_Public_P ref3_Public_H ref3_Public_R ref3_Public_G (ref3_Public_V (ref3_Public))) :=
  ent_ok ref3_Public_FH ref3_Public_Cok (hp := ref3_Public_H) (fn := Tryz.f69) (by kernel_rfl) (ToldC.nil 0) fun (x : (Int × Int)) => ref3_Public_b x.1 x.2

/-! ref14_Key: passkey/passkeyref14.Key -/
noncomputable def ref14_Key_P : Pt := (.agg (.cons .str (.cons .str (.cons .str (.cons (.int .u64) (.cons (.int .i64) (.cons .bool (.cons (.int .i64) (.cons .bool .bool)))))))))
noncomputable def ref14_Key_H : List Po := []
noncomputable def ref14_Key_R : Pt := (.tup (.cons (.agg (.cons (.int .i64) (.int .u64))) (.int .i64)))
noncomputable def ref14_Key_G : List Po := []
noncomputable def ref14_Key_V (f : ByteArray → ByteArray → ByteArray → Int → Int → Bool → Int → Bool → Bool → Option ((Int × Int) × Int)) (x : (ByteArray × ByteArray × ByteArray × Int × Int × Bool × Int × Bool × Bool)) : Option ((Int × Int) × Int) := f x.1 x.2.1 x.2.2.1 x.2.2.2.1 x.2.2.2.2.1 x.2.2.2.2.2.1 x.2.2.2.2.2.2.1 x.2.2.2.2.2.2.2.1 x.2.2.2.2.2.2.2.2
noncomputable def ref14_Key_C : Cal := tbl [(16, (ent ref14_ValidateCredential_P ref14_ValidateCredential_H ref14_ValidateCredential_R ref14_ValidateCredential_G (ref14_ValidateCredential_V (ref14_ValidateCredential)))), (69, (ent ref3_Public_P ref3_Public_H ref3_Public_R ref3_Public_G (ref3_Public_V (ref3_Public))))]
theorem ref14_Key_Cok : CalOK Tryz.prog ref14_Key_C ∧ CalNt ref14_Key_C := by
  unfold ref14_Key_C
  exact tbl_ok (by
    intro p hp
    simp only [List.mem_cons, List.not_mem_nil, or_false] at hp
    rcases hp with rfl | rfl
    · exact ref14_ValidateCredential_ok
    · exact ref3_Public_ok)
noncomputable def ref14_Key_FH : FH := {}
theorem ref14_Key_b (a1 : ByteArray) (a2 : ByteArray) (a3 : ByteArray) (a4 : Int) (a5 : Int) (a6 : Bool) (a7 : Int) (a8 : Bool) (a9 : Bool) : bodyC Tryz.prog ref14_Key_C ref14_Key_FH [] [] { keep := [] } 35 ref14_Key_P ref14_Key_H ref14_Key_R ref14_Key_G (a1, a2, a3, a4, a5, a6, a7, a8, a9) _ some = ref14_Key a1 a2 a3 a4 a5 a6 a7 a8 a9 := by kernel_rfl
theorem ref14_Key_ok : EntOK Tryz.prog 35 (ent ref14_Key_P ref14_Key_H ref14_Key_R ref14_Key_G (ref14_Key_V (ref14_Key))) :=
  ent_ok ref14_Key_FH ref14_Key_Cok (hp := ref14_Key_H) (fn := Tryz.f35) (by kernel_rfl) (ToldC.nil 0) fun (x : (ByteArray × ByteArray × ByteArray × Int × Int × Bool × Int × Bool × Bool)) => ref14_Key_b x.1 x.2.1 x.2.2.1 x.2.2.2.1 x.2.2.2.2.1 x.2.2.2.2.2.1 x.2.2.2.2.2.2.1 x.2.2.2.2.2.2.2.1 x.2.2.2.2.2.2.2.2

/-! law15_CredentialKeys: passkey/passkeylaw15.CredentialKeys -/
noncomputable def law15_CredentialKeys_P : Pt := (.cons (.int .i64) (.int .i64))
noncomputable def law15_CredentialKeys_H : List Po := []
noncomputable def law15_CredentialKeys_R : Pt := .bool
noncomputable def law15_CredentialKeys_G : List Po := []
noncomputable def law15_CredentialKeys_V (f : Int → Int → Option Bool) (x : (Int × Int)) : Option Bool := f x.1 x.2
noncomputable def law15_CredentialKeys_C : Cal := tbl [(12, (ent base_Credential_P base_Credential_H base_Credential_R base_Credential_G (base_Credential_V (base_Credential)))), (11, (ent law15_spoil_P law15_spoil_H law15_spoil_R law15_spoil_G (law15_spoil_V (law15_spoil)))), (34, (ent credential_Key_P credential_Key_H credential_Key_R credential_Key_G (credential_Key_V (credential_Key)))), (35, (ent ref14_Key_P ref14_Key_H ref14_Key_R ref14_Key_G (ref14_Key_V (ref14_Key)))), (10, (ent law15_awake_P law15_awake_H law15_awake_R law15_awake_G (law15_awake_V (law15_awake))))]
theorem law15_CredentialKeys_Cok : CalOK Tryz.prog law15_CredentialKeys_C ∧ CalNt law15_CredentialKeys_C := by
  unfold law15_CredentialKeys_C
  exact tbl_ok (by
    intro p hp
    simp only [List.mem_cons, List.not_mem_nil, or_false] at hp
    rcases hp with rfl | rfl | rfl | rfl | rfl
    · exact base_Credential_ok
    · exact law15_spoil_ok
    · exact credential_Key_ok
    · exact ref14_Key_ok
    · exact law15_awake_ok)
noncomputable def law15_CredentialKeys_FH : FH := {}
theorem law15_CredentialKeys_b (a1 : Int) (a2 : Int) : bodyC Tryz.prog law15_CredentialKeys_C law15_CredentialKeys_FH [] [] { keep := [] } 9 law15_CredentialKeys_P law15_CredentialKeys_H law15_CredentialKeys_R law15_CredentialKeys_G (a1, a2) _ some = law15_CredentialKeys a1 a2 := by kernel_rfl
theorem law15_CredentialKeys_ok : EntOK Tryz.prog 9 (ent law15_CredentialKeys_P law15_CredentialKeys_H law15_CredentialKeys_R law15_CredentialKeys_G (law15_CredentialKeys_V (law15_CredentialKeys))) :=
  ent_ok law15_CredentialKeys_FH law15_CredentialKeys_Cok (hp := law15_CredentialKeys_H) (fn := Tryz.f9) (by kernel_rfl) (ToldC.nil 0) fun (x : (Int × Int)) => law15_CredentialKeys_b x.1 x.2

end Go.Proofs.YtijjelcejpikiaaGreatDoor
