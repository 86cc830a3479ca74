/-
Policies: the laws on models and on weaker policies.
-/
import Derived.Test.YtjfnkoilnomofaaEvL31
set_option linter.unusedVariables false
set_option linter.unusedSimpArgs false
namespace Go.Proofs.Ytjfnkoilnomofaa
open Go Go.Ev
theorem gest_le (v f : Int) : gest v f = 0 ∨ gest v f = 22 ∨ gest v f = 23 := by
  unfold gest
  split
  · simp
  · split <;> simp
theorem rules_bad {a7 : Bool} {a8 : List Int} {m k : Int} (h : (k = 3 ∨ k = 4) ∨ m ∈ a8) : rulesV a7 a8 m k ≠ 0 := by
  unfold rulesV
  split
  · decide
  · rename_i h1
    rcases h with h | h
    · exact absurd h h1
    · rw [if_pos (.inl h)]; decide
theorem reg_bad {a1 a3 : Int} {a5 : Bool} {a7 : Bool} {a8 : List Int} {flags model height k : Int} (h : (k = 3 ∨ k = 4) ∨ model ∈ a8) : regV a1 a3 a5 2 a7 a8 flags model height 2 k ≠ 0 := by
  unfold regV
  split
  · assumption
  · split
    · decide
    · rw [if_neg (by simp)]
      split
      · decide
      · exact rules_bad h
theorem sign_bad {a1 : Int} {a7 : Bool} {a8 : List Int} {flags model k : Int} (h : (k = 3 ∨ k = 4) ∨ model ∈ a8) : signV a1 a7 a8 flags model (bitsI .and .i64 flags 8 != 0) k ≠ 0 ∨ model = 0 := by
  unfold signV
  split
  · exact .inl ‹_›
  · rw [if_neg (by simp)]
    split
    · exact .inr ‹_›
    · exact .inl (rules_bad h)
theorem f6j10_true (a1 k : Int) (a3 : Int) (a4 : Bool) (a5 a6 : Int) (a7 : Bool) (a9 : Bool) (a10 : List Int) (a11 a12 a13 a14 a15 : Int) (a17 : List Int) (a18 a19 : Int) (hl : a10.length ≤ 9223372036854775807) (h : (k = 3 ∨ k = 4) ∨ a1 ∈ a10) :
    f6j10 ((a1, (), (), k), ((a3, a4, a5, a6, a7, 2, a9, a10, a11), (a12, a13, a14, a15, a1, a17, a18, a19))) = some true := Gd.eq (by
  unfold f6j10
  dsimp only
  refine .bindS (f14_val _ _ _ _ _ _ _ _ _ _ _ _ _ _ _ _ _ _ _ _ _ hl) (.bindS (f16_val _ _ _ _ _ _ _ _ _ _ _ _ _ _ _ _ _ _ _ _ _ _ _ _ _ _ _ _ _ hl) ?_)
  refine .condT (by simpa using reg_bad h) ?_
  refine .cond (fun _ => .bindS f7_true (.pure rfl)) fun h2 => ?_
  rcases sign_bad (a1 := a3) (a7 := a9) (flags := a13) h with h3 | h3
  · exact absurd h2 (by simpa using h3)
  · exact .condT (by simpa using h3) (.bindS f7_true (.pure rfl)))
theorem f6_true (xs : List Int) (m s : Int) (hl : xs.length ≤ 9223372036854775807) (h0 : 0 ≤ s) (h1 : s ≤ 255) : f6 xs m s = some true := Gd.eq (by
  unfold f6
  refine .bindS (deck_new xs) ?_
  refine .bind (f9_gd hl (deck_ok xs)) fun y2 ⟨⟨_, _, _, _, _, _, _, _, hd⟩, d3⟩ => ?_
  refine .bind (f13_gd hl d3) fun y4 ⟨_, _, d4⟩ => ?_
  refine .cond (fun _ => ?_) fun _ => ?_
  · exact .bindS (f6j10_true _ _ _ _ _ _ _ _ _ _ _ _ _ _ _ _ _ (by simp) (.inr (by simp))) (.pure rfl)
  · refine .bindS (f6j10_true _ _ _ _ _ _ _ _ _ _ _ _ _ _ _ _ _ (by omega) (.inl ?_)) (.pure rfl)
    have h2 := Int.emod_nonneg s (show (2 : Int) ≠ 0 by omega)
    have h3 := Int.emod_lt_of_pos s (show (0 : Int) < 2 by omega)
    rw [Int.tmod_eq_emod_of_nonneg h0, wrap64 (n := s % 2) (by omega) (by omega), wrap64 (by omega) (by omega)]
    omega)
theorem and5 : ∀ n : Fin 256, bitsI .and .i64 ((n.val : Nat) : Int) 5 ∈ [(0 : Int), 1, 4, 5] := by decide +kernel
theorem more_flags : ∀ f ∈ [(1 : Int), 5, 0, 4, 13, 25], ∀ b ∈ [(0 : Int), 1, 4, 5], bitsI .and .i64 (bitsI .or .i64 f b) 8 = bitsI .and .i64 f 8 ∧ (bitsI .and .i64 f 1 ≠ 0 → bitsI .and .i64 (bitsI .or .i64 f b) 1 ≠ 0) ∧ (bitsI .and .i64 f 4 ≠ 0 → bitsI .and .i64 (bitsI .or .i64 f b) 4 ≠ 0) := by decide +kernel
theorem gest_zero {v f : Int} : gest v f = 0 ↔ bitsI .and .i64 f 1 ≠ 0 ∧ ¬ (v = 2 ∧ bitsI .and .i64 f 4 = 0) := by
  unfold gest
  by_cases h1 : bitsI .and .i64 f 1 = 0
  · simp [h1]
  · by_cases h2 : v = 2 ∧ bitsI .and .i64 f 4 = 0
    · simp [h1, h2]
    · rw [if_neg h1, if_neg h2]; exact ⟨fun _ => ⟨h1, h2⟩, fun _ => rfl⟩
theorem rules_zero {a7 : Bool} {a8 : List Int} {m k : Int} : rulesV a7 a8 m k = 0 ↔ ¬ (k = 3 ∨ k = 4) ∧ ¬ (m ∈ a8 ∨ (k = 2 ∧ a7 = false)) := by
  unfold rulesV
  by_cases h1 : k = 3 ∨ k = 4
  · simp [h1]
  · by_cases h2 : m ∈ a8 ∨ (k = 2 ∧ a7 = false)
    · rw [if_neg h1, if_pos h2]; simp [h2]
    · rw [if_neg h1, if_neg h2]; simp only [h1, h2]; simp
theorem sign_zero {a1 : Int} {a7 : Bool} {a8 : List Int} {flags model : Int} {sh : Bool} {k : Int} : signV a1 a7 a8 flags model sh k = 0 ↔ gest a1 flags = 0 ∧ (bitsI .and .i64 flags 8 != 0) = sh ∧ (model = 0 ∨ rulesV a7 a8 model k = 0) := by
  unfold signV
  by_cases h1 : gest a1 flags = 0
  · by_cases h2 : (bitsI .and .i64 flags 8 != 0) = sh
    · by_cases h3 : model = 0
      · simp [h1, h2, h3]
      · simp [h1, h2, h3]
    · simp [h1, h2]
  · simp [h1]
theorem reg_zero {a1 a3 : Int} {a5 : Bool} {a6 : Int} {a7 : Bool} {a8 : List Int} {flags model height format k : Int} : regV a1 a3 a5 a6 a7 a8 flags model height format k = 0 ↔
    gest a1 flags = 0 ∧ ¬ (height < a3 ∨ (bitsI .and .i64 flags 8 ≠ 0 ∧ a5 = false) ∨ format ≠ a6) ∧ (format = 2 → k ≠ 0 ∧ rulesV a7 a8 model k = 0) := by
  unfold regV
  by_cases h1 : gest a1 flags = 0
  · by_cases h2 : height < a3 ∨ (bitsI .and .i64 flags 8 ≠ 0 ∧ a5 = false) ∨ format ≠ a6
    · rw [if_neg (by simp [h1]), if_pos h2]; simp only [h2]; simp
    · rw [if_neg (by simp [h1]), if_neg h2]
      by_cases h3 : format = 2
      · by_cases h4 : k = 0
        · rw [if_neg (by simp [h3]), if_pos h4]; exact ⟨fun h => absurd h (by decide), fun h => absurd h4 (h.2.2 h3).1⟩
        · rw [if_neg (by simp [h3]), if_neg h4]; exact ⟨fun h => ⟨h1, h2, fun _ => ⟨h4, h⟩⟩, fun h => (h.2.2 h3).2⟩
      · rw [if_pos h3]; exact ⟨fun _ => ⟨h1, h2, fun h => absurd h h3⟩, fun _ => rfl⟩
  · simp [h1]
theorem f5_true (xs : List Int) (a2 a3 : Int) (hl : xs.length ≤ 9223372036854775807) (h0 : 0 ≤ a2) (h1 : a2 ≤ 255) (h2 : 0 ≤ a3) (h3 : a3 ≤ 255) : f5 xs a2 a3 = some true := Gd.eq (by
  unfold f5
  refine .bindS (deck_new xs) ?_
  refine .bind (f9_gd hl (deck_ok xs)) fun y2 ⟨⟨hv0, hv2, hh, _, _, _, _, _, hd⟩, d3⟩ => ?_
  refine .bind (f13_gd hl d3) fun y3 ⟨⟨f, hf, hff⟩, _, d4⟩ => ?_
  refine .bind (next_gd hl d4 8 (by omega) (by omega)) fun y4 ⟨_, _, d5⟩ => ?_
  refine .bind (next_gd hl d5 2 (by omega) (by omega)) fun y5 ⟨_, _, d6⟩ => ?_
  have hs : y2.1.2.2.2.2.2.2.2.1.length ≤ 9223372036854775807 := by omega
  have hb : bitsI .and .i64 (IntKind.i64.wrap a3) 5 ∈ [(0 : Int), 1, 4, 5] := by
    rw [wrap64 (by omega) (by omega)]
    obtain ⟨n, rfl⟩ := Int.eq_ofNat_of_zero_le h2
    exact and5 ⟨n, by omega⟩
  obtain ⟨m8, m1, m4⟩ := more_flags y3.1.1.2.1 (by rw [hff]; exact hf) _ hb
  generalize hmf : bitsI .or .i64 y3.1.1.2.1 (bitsI .and .i64 (IntKind.i64.wrap a3) 5) = mf at *
  have e1 := Int.emod_nonneg a2 (show (3 : Int) ≠ 0 by omega)
  have e2 := Int.emod_lt_of_pos a2 (show (0 : Int) < 3 by omega)
  have hw : IntKind.i64.wrap (Int.tmod a2 3) = a2 % 3 := by rw [Int.tmod_eq_emod_of_nonneg h0, wrap64 (by omega) (by omega)]
  rw [hw]
  have hwv : (if a2 % 3 < y2.1.1 then a2 % 3 else y2.1.1) = 2 → y2.1.1 = 2 := fun h => by
    split at h
    · omega
    · exact h
  generalize (if a2 % 3 < y2.1.1 then a2 % 3 else y2.1.1) = wv at *
  have gw : gest y2.1.1 y3.1.1.2.1 = 0 → gest wv y3.1.1.2.1 = 0 := fun h => by
    rw [gest_zero] at h ⊢
    exact ⟨h.1, fun ⟨h5, h6⟩ => h.2 ⟨hwv h5, h6⟩⟩
  have gm : gest y2.1.1 y3.1.1.2.1 = 0 → gest y2.1.1 mf = 0 := fun h => by
    rw [gest_zero] at h ⊢
    exact ⟨m1 h.1, fun ⟨h5, h6⟩ => m4 (fun h7 => h.2 ⟨h5, h7⟩) h6⟩
  have last : f5j15 (((), (), (), y3.1.2.2, (), ()), ((y2.1.1, y2.1.2.1, y2.1.2.2.1, y2.1.2.2.2.1, y2.1.2.2.2.2.1, y2.1.2.2.2.2.2.1, y2.1.2.2.2.2.2.2.1, y2.1.2.2.2.2.2.2.2.1, y2.1.2.2.2.2.2.2.2.2), (y3.1.1.1, y3.1.1.2.1, y3.1.1.2.2.1, y3.1.1.2.2.2.1, y3.1.1.2.2.2.2.1, y3.1.1.2.2.2.2.2.1, y3.1.1.2.2.2.2.2.2.1, y3.1.1.2.2.2.2.2.2.2), (y3.1.2.1.1, y3.1.2.1.2.1, y3.1.2.1.2.2), (wv, y2.1.2.1, 1, y2.1.2.2.2.1, true, y2.1.2.2.2.2.2.1, true, [], y2.1.2.2.2.2.2.2.2.2), (y3.1.1.1, mf, y3.1.1.2.2.1, y3.1.1.2.2.2.1, y3.1.1.2.2.2.2.1, y3.1.1.2.2.2.2.2.1, y3.1.1.2.2.2.2.2.2.1, y3.1.1.2.2.2.2.2.2.2))) = some true := Gd.eq (by
    unfold f5j15 f5j17
    dsimp only
    refine .bindS (f14_val _ _ _ _ _ _ _ _ _ _ _ _ _ _ _ _ _ _ _ _ _ hs) (.cond (fun h => ?_) fun _ => .bindS (a := true) (by rw [f7_true]; rfl) (.pure rfl))
    have hr := reg_zero.1 (by simpa using h)
    refine .bindS (f14_val _ _ _ _ _ _ _ _ _ _ _ _ _ _ _ _ _ _ _ _ _ (by simp)) (.condF ?_ ?_)
    · have : regV wv 1 true y2.1.2.2.2.2.2.1 true [] y3.1.1.2.1 y3.1.1.2.2.2.2.1 y3.1.1.2.2.2.2.2.2.1 y3.1.2.1.1 y3.1.2.2 = 0 := by
        rw [reg_zero]
        refine ⟨gw hr.1, fun h5 => ?_, fun h5 => ⟨(hr.2.2 h5).1, ?_⟩⟩
        · rcases h5 with h5 | h5 | h5
          · exact hr.2.1 (.inl (by omega))
          · exact absurd h5.2 (by simp)
          · exact hr.2.1 (.inr (.inr h5))
        · have := rules_zero.1 (hr.2.2 h5).2
          rw [rules_zero]
          exact ⟨this.1, by simp⟩
      rw [this]
      rfl
    · refine .bindS (f14_val _ _ _ _ _ _ _ _ _ _ _ _ _ _ _ _ _ _ _ _ _ hs) (.condF ?_ (.bindS (a := true) (by rw [f7_true]; rfl) (.pure rfl)))
      have : regV y2.1.1 y2.1.2.2.1 y2.1.2.2.2.2.1 y2.1.2.2.2.2.2.1 y2.1.2.2.2.2.2.2.1 y2.1.2.2.2.2.2.2.2.1 mf y3.1.1.2.2.2.2.1 y3.1.1.2.2.2.2.2.2.1 y3.1.2.1.1 y3.1.2.2 = 0 := by
        rw [reg_zero, m8]
        exact ⟨gm hr.1, hr.2⟩
      rw [this]
      rfl)
  refine .bindS (f16_val _ _ _ _ _ _ _ _ _ _ _ _ _ _ _ _ _ _ _ _ _ _ _ _ _ _ _ _ _ hs) (.cond (fun h => ?_) fun _ => .bindS last (.pure rfl))
  have hr := sign_zero.1 (by simpa using h)
  refine .bindS (f16_val _ _ _ _ _ _ _ _ _ _ _ _ _ _ _ _ _ _ _ _ _ _ _ _ _ _ _ _ _ (by simp)) (.condF ?_ ?_)
  · have : signV wv true [] y3.1.1.2.1 (IntKind.u64.wrap y4.1) (y5.1 == 1) y3.1.2.2 = 0 := by
      rw [sign_zero]
      refine ⟨gw hr.1, hr.2.1, ?_⟩
      rcases hr.2.2 with h5 | h5
      · exact .inl h5
      · have := rules_zero.1 h5
        exact .inr (rules_zero.2 ⟨this.1, by simp⟩)
    rw [this]
    rfl
  · refine .bindS (f16_val _ _ _ _ _ _ _ _ _ _ _ _ _ _ _ _ _ _ _ _ _ _ _ _ _ _ _ _ _ hs) (.condF ?_ (.bindS last (.pure rfl)))
    have : signV y2.1.1 y2.1.2.2.2.2.2.2.1 y2.1.2.2.2.2.2.2.2.1 mf (IntKind.u64.wrap y4.1) (y5.1 == 1) y3.1.2.2 = 0 := by
      rw [sign_zero, m8]
      exact ⟨gm hr.1, hr.2⟩
    rw [this]
    rfl)
end Go.Proofs.Ytjfnkoilnomofaa
