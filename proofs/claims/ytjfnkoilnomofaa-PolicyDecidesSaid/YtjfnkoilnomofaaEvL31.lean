/-
Policies: the laws, of the values alone.
-/
import Derived.Test.YtjfnkoilnomofaaEvP31
set_option linter.unusedVariables false
set_option linter.unusedSimpArgs false
namespace Go.Proofs.Ytjfnkoilnomofaa
open Go Go.Ev
theorem f7_true : f7 = some true := by
  unfold f7
  rw [f11_val, Option.bind_some, show (valid 2 1 1 0 [] 1 == 0) = true by decide, cond_true, f11_val, Option.bind_some, show (valid 0 0 0 0 [] 0 == 9) = true by decide, cond_true]
  rfl
theorem f3j24_true (s) : f3j24 s = some true := by
  obtain ⟨⟨⟨⟩, ⟨⟩⟩, ⟨a1, a2, a3, a4, a5, a6, a7, a8, a9⟩, ⟨a10, a11, a12, a13, a14, a15, a16, a17, a18⟩⟩ := s
  unfold f3j24
  dsimp only
  rw [f11_val, f12_val, f11_val, f12_val, f7_true]
  simp
theorem f3_true (a1 : Int) (a2 : Bool) (a3 a4 : Int) (a5 : Bool) (a6 : Int) (a7 : Bool) (a8 : List Int) (a9 : Int) (a10 : List Int) (hl : a10.length ≤ 9223372036854775807) : f3 a1 a2 a3 a4 a5 a6 a7 a8 a9 a10 = some true := Gd.eq (by
  unfold f3
  refine .cond (fun _ => .bindS f7_true (.pure rfl)) fun _ => ?_
  refine .bindS (deck_new a10) ?_
  refine .bind (f9_gd hl (deck_ok a10)) fun y3 ⟨_, d3⟩ => ?_
  refine .bind (next_gd hl d3 9 (by omega) (by omega)) fun y4 ⟨l4, u4, d4⟩ => ?_
  refine .cond (fun _ => .bind (next_gd hl d4 5 (by omega) (by omega)) fun y5 _ => .bindS (f3j24_true _) (.pure rfl)) fun _ => ?_
  refine .cond (fun _ => .bind (next_gd hl d4 7 (by omega) (by omega)) fun y5 _ => .bindS (f3j24_true _) (.pure rfl)) fun _ => ?_
  refine .cond (fun _ => .bind (next_gd hl d4 6 (by omega) (by omega)) fun y5 _ => .bindS (f3j24_true _) (.pure rfl)) fun _ => ?_
  refine .cond (fun _ => .bind (next_gd hl d4 5 (by omega) (by omega)) fun y5 _ => .bindS (f3j24_true _) (.pure rfl)) fun _ => ?_
  refine .cond (fun _ => .bind (next_gd hl d4 5 (by omega) (by omega)) fun y13 ⟨l13, u13, _⟩ => ?_) fun _ => ?_
  · refine .condT (inRange_true l13 (by simpa using u13)) ?_
    obtain ⟨z, hz, _⟩ := idx_some (xs := [(0 : Int), 1, 1099511627776, 1099511627777, -1]) (n := Int.toNat y13.1) (by simp; omega)
    exact .bindS hz (.bindS (f3j24_true _) (.pure rfl))
  refine .cond (fun _ => .bind (next_gd hl d4 19 (by omega) (by omega)) fun y16 ⟨l16, u16, _⟩ => ?_) fun _ => ?_
  · refine .bind (Gd.loop (Q := fun _ => True) (fun s => 0 ≤ s.1.2.2 ∧ (s.2.2.2.length : Int) + s.1.2.2 ≤ 18) (fun s => s.1.2.2.toNat) (fun s hs => ?_) _ ⟨l16, ?_⟩) fun y17 _ => .bindS (f3j24_true _) (.pure rfl)
    · obtain ⟨⟨⟨⟩, ⟨⟩, n⟩, ⟨a1, a2, a3, a4, a5, a6, a7, a8, a9⟩, ⟨a10, a11, a12, a13, a14, a15, a16, ⟨⟩, a18⟩, ys⟩ := s
      obtain ⟨h1, h2⟩ := hs
      dsimp only at h1 h2
      unfold f3l19
      dsimp only
      refine .cond (fun h => ?_) fun h => .pure trivial
      have hn : 0 < n := by simpa using h
      refine .condT (by simp; omega) (.pure ?_)
      dsimp only
      rw [wrap64 (by omega) (by omega)]
      simp
      omega
    · show (([] : List Int).length : Int) + y16.1 ≤ 18
      simp
      omega
  refine .cond (fun _ => .bind (next_gd hl d4 3 (by omega) (by omega)) fun y19 ⟨_, _, d19⟩ => .bind (next_gd hl d19 3 (by omega) (by omega)) fun y20 _ => .bindS (f3j24_true _) (.pure rfl)) fun _ => ?_
  exact .bindS (f3j24_true _) (.pure rfl))
/-- A user's gesture. -/
def gest (v f : Int) : Int := if bitsI .and .i64 f 1 = 0 then 22 else if v = 2 ∧ bitsI .and .i64 f 4 = 0 then 23 else 0
theorem f20_val (a1 : Int) (a2 : Bool) (a3 a4 : Int) (a5 : Bool) (a6 : Int) (a7 : Bool) (a8 : List Int) (a9 a10 a11 a12 a13 a14 : Int) (a15 : List Int) (a16 a17 : Int) : f20 a1 a2 a3 a4 a5 a6 a7 a8 a9 a10 a11 a12 a13 a14 a15 a16 a17 = some (gest a1 a11) := by
  unfold f20 gest
  by_cases h1 : bitsI .and .i64 a11 1 = 0 <;> by_cases h2 : a1 = 2 <;> by_cases h3 : bitsI .and .i64 a11 4 = 0 <;> simp [h1, h2, h3, Bool.cond_eq_ite]
theorem f22_val (a1 : Int) (a2 : Bool) (a3 a4 : Int) (a5 : Bool) (a6 : Int) (a7 : Bool) (a8 : List Int) (a9 a11 : Int) : f22 a1 a2 a3 a4 a5 a6 a7 a8 a9 a11 = some (gest a1 a11) := by
  unfold f22 gest
  by_cases h1 : bitsI .and .i64 a11 1 = 0 <;> by_cases h2 : a1 = 2 <;> by_cases h3 : bitsI .and .i64 a11 4 = 0 <;> simp [h1, h2, h3, Bool.cond_eq_ite]
/-- What Registers tells. -/
def regV (a1 a3 : Int) (a5 : Bool) (a6 : Int) (a7 : Bool) (a8 : List Int) (flags model height format status : Int) : Int :=
  if gest a1 flags ≠ 0 then gest a1 flags else if height < a3 ∨ (bitsI .and .i64 flags 8 ≠ 0 ∧ a5 = false) ∨ format ≠ a6 then 40 else if format ≠ 2 then 0 else if status = 0 then 38 else rulesV a7 a8 model status
theorem f14_val (a1 : Int) (a2 : Bool) (a3 a4 : Int) (a5 : Bool) (a6 : Int) (a7 : Bool) (a8 : List Int) (a9 a10 a11 a12 a13 a14 : Int) (a15 : List Int) (a16 a17 a18 a19 a20 a21 : Int) (hl : a8.length ≤ 9223372036854775807) :
    f14 a1 a2 a3 a4 a5 a6 a7 a8 a9 a10 a11 a12 a13 a14 a15 a16 a17 a18 a19 a20 a21 = some (regV a1 a3 a5 a6 a7 a8 a11 a14 a16 a18 a21) := by
  unfold f14 f14j6 regV
  dsimp only
  rw [f20_val, f21_val _ _ _ _ _ _ _ _ _ _ _ hl]
  by_cases h1 : gest a1 a11 = 0 <;> by_cases h2 : a16 < a3 <;> by_cases h3 : bitsI .and .i64 a11 8 = 0 <;> by_cases h4 : a18 = a6 <;> by_cases h5 : a18 = 2 <;> by_cases h6 : a21 = 0 <;> cases a5 <;> simp [h1, h2, h3, h4, h5, h6, Bool.cond_eq_ite] <;> split <;> rfl
theorem f15_val (a1 : Int) (a2 : Bool) (a3 a4 : Int) (a5 : Bool) (a6 : Int) (a7 : Bool) (a8 : List Int) (a9 a10 a11 a12 a13 a14 : Int) (a15 : List Int) (a16 a17 a18 a19 a20 a21 : Int) (hl : a8.length ≤ 9223372036854775807) :
    f15 a1 a2 a3 a4 a5 a6 a7 a8 a9 a10 a11 a12 a13 a14 a15 a16 a17 a18 a19 a20 a21 = some (regV a1 a3 a5 a6 a7 a8 a11 a14 a16 a18 a21) := by
  unfold f15 f15j6 regV
  dsimp only
  rw [f22_val, f23_val _ _ _ _ _ _ _ _ _ _ _ hl]
  by_cases h1 : gest a1 a11 = 0 <;> by_cases h2 : a16 < a3 <;> by_cases h3 : bitsI .and .i64 a11 8 = 0 <;> by_cases h4 : a18 = a6 <;> by_cases h5 : a18 = 2 <;> by_cases h6 : a21 = 0 <;> cases a5 <;> simp [h1, h2, h3, h4, h5, h6, Bool.cond_eq_ite] <;> split <;> rfl
/-- What SignsIn tells. -/
def signV (a1 : Int) (a7 : Bool) (a8 : List Int) (flags model : Int) (shared : Bool) (status : Int) : Int :=
  if gest a1 flags ≠ 0 then gest a1 flags else if (bitsI .and .i64 flags 8 != 0) ≠ shared then 40 else if model = 0 then 0 else rulesV a7 a8 model status
theorem f16_val (a1 : Int) (a2 : Bool) (a3 a4 : Int) (a5 : Bool) (a6 : Int) (a7 : Bool) (a8 : List Int) (a9 a10 a11 a12 a13 a14 : Int) (a15 : List Int) (a16 a17 : Int) (a18 : List Int) (a19 a20 a21 a22 : Int) (a23 : Bool) (a24 : Int) (a25 : List PD) (a26 : Bool) (a27 a28 a29 : Int) (hl : a8.length ≤ 9223372036854775807) :
    f16 a1 a2 a3 a4 a5 a6 a7 a8 a9 a10 a11 a12 a13 a14 a15 a16 a17 a18 a19 a20 a21 a22 a23 a24 a25 a26 a27 a28 a29 = some (signV a1 a7 a8 a11 a21 a23 a29) := by
  unfold f16 signV
  rw [f20_val, f21_val _ _ _ _ _ _ _ _ _ _ _ hl]
  by_cases h1 : gest a1 a11 = 0 <;> by_cases h3 : (bitsI .and .i64 a11 8 != 0) = a23 <;> by_cases h5 : a21 = 0 <;> simp [h1, h3, h5, Bool.cond_eq_ite]
theorem f17_val (a1 : Int) (a2 : Bool) (a3 a4 : Int) (a5 : Bool) (a6 : Int) (a7 : Bool) (a8 : List Int) (a9 a10 a11 a12 a13 a14 : Int) (a15 : List Int) (a16 a17 : Int) (a18 : List Int) (a19 a20 a21 a22 : Int) (a23 : Bool) (a24 : Int) (a25 : List PD) (a26 : Bool) (a27 a28 a29 : Int) (hl : a8.length ≤ 9223372036854775807) :
    f17 a1 a2 a3 a4 a5 a6 a7 a8 a9 a10 a11 a12 a13 a14 a15 a16 a17 a18 a19 a20 a21 a22 a23 a24 a25 a26 a27 a28 a29 = some (signV a1 a7 a8 a11 a21 a23 a29) := by
  unfold f17 signV
  rw [f22_val, f23_val _ _ _ _ _ _ _ _ _ _ _ hl]
  by_cases h1 : gest a1 a11 = 0 <;> by_cases h3 : (bitsI .and .i64 a11 8 != 0) = a23 <;> by_cases h5 : a21 = 0 <;> simp [h1, h3, h5, Bool.cond_eq_ite]
theorem f4_true (a1 : Int) (a2 : Bool) (a3 a4 : Int) (a5 : Bool) (a6 : Int) (a7 : Bool) (a8 : List Int) (a9 a10 a11 a12 a13 a14 : Int) (a15 : List Int) (a16 a17 a18 a19 a20 : Int) (a21 : List Int) (a22 a23 a24 a25 : Int) (a26 : Bool) (a27 : Int) (a28 : List PD) (a29 : Bool) (a30 a31 a32 : Int) (a33 : List Int) (hl8 : a8.length ≤ 9223372036854775807) (hl : a33.length ≤ 9223372036854775807) :
    f4 a1 a2 a3 a4 a5 a6 a7 a8 a9 a10 a11 a12 a13 a14 a15 a16 a17 a18 a19 a20 a21 a22 a23 a24 a25 a26 a27 a28 a29 a30 a31 a32 a33 = some true := Gd.eq (by
  unfold f4
  refine .cond (fun _ => .bindS f7_true (.pure rfl)) fun _ => ?_
  refine .bindS (deck_new a33) ?_
  refine .bind (f9_gd hl (deck_ok a33)) fun y3 ⟨⟨_, _, _, _, _, _, _, _, hd⟩, d3⟩ => ?_
  refine .bind (f13_gd hl d3) fun y4 ⟨_, _, d4⟩ => ?_
  refine .bind (next_gd hl d4 8 (by omega) (by omega)) fun y5 ⟨_, _, d5⟩ => ?_
  refine .bind (next_gd hl d5 2 (by omega) (by omega)) fun y6 ⟨_, _, d6⟩ => ?_
  have hs : y3.1.2.2.2.2.2.2.2.1.length ≤ 9223372036854775807 := by omega
  refine .bindS (f14_val _ _ _ _ _ _ _ _ _ _ _ _ _ _ _ _ _ _ _ _ _ hl8) (.bindS (f15_val _ _ _ _ _ _ _ _ _ _ _ _ _ _ _ _ _ _ _ _ _ hl8) (.condT (by simp) ?_))
  refine .bindS (f14_val _ _ _ _ _ _ _ _ _ _ _ _ _ _ _ _ _ _ _ _ _ hs) (.bindS (f15_val _ _ _ _ _ _ _ _ _ _ _ _ _ _ _ _ _ _ _ _ _ hs) (.condT (by simp) ?_))
  refine .bindS (f16_val _ _ _ _ _ _ _ _ _ _ _ _ _ _ _ _ _ _ _ _ _ _ _ _ _ _ _ _ _ hl8) (.bindS (f17_val _ _ _ _ _ _ _ _ _ _ _ _ _ _ _ _ _ _ _ _ _ _ _ _ _ _ _ _ _ hl8) (.condT (by simp) ?_))
  refine .bindS (f16_val _ _ _ _ _ _ _ _ _ _ _ _ _ _ _ _ _ _ _ _ _ _ _ _ _ _ _ _ _ hs) (.bindS (f17_val _ _ _ _ _ _ _ _ _ _ _ _ _ _ _ _ _ _ _ _ _ _ _ _ _ _ _ _ _ hs) (.condT (by simp) ?_))
  exact .bindS f7_true (.pure rfl))
end Go.Proofs.Ytjfnkoilnomofaa
