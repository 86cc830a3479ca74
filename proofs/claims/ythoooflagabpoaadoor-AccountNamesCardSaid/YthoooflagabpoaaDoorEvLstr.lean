/-
The streams of the program and of the reference.
-/
import Derived.Test.YthoooflagabpoaaDoorEvLdig
set_option linter.unusedVariables false
set_option linter.unusedSimpArgs false
set_option maxRecDepth 20000
namespace Go.Px
open Go Go.Ev
/-- The first c words of a stream, as bytes. -/
def strm (k n : Int) (c : Nat) : List Int := (List.range c).flatMap fun i : Nat => wb (mac k 5 (wbs [n, (i : Int)]))
def stream (k n : Int) (m : Nat) : List Int := (strm k n ((m + 7) / 8)).take m
theorem strm_succ (k n : Int) (c : Nat) : strm k n (c + 1) = strm k n c ++ wb (mac k 5 (wbs [n, (c : Int)])) := by
  simp [strm, List.range_succ]
theorem strm_len (k n : Int) (c : Nat) : (strm k n c).length = 8 * c := by
  induction c with
  | zero => rfl
  | succ c ih => rw [strm_succ, List.length_append, ih, wb_len]; omega
theorem strm_byt (k n : Int) (c : Nat) : Byt (strm k n c) := fun x hx => by
  obtain ⟨i, _, hx⟩ := List.mem_flatMap.1 hx
  exact wb_byt _ x hx
theorem stream_len (k n : Int) (m : Nat) : (stream k n m).length = m := by
  unfold stream
  rw [List.length_take, strm_len]
  omega
theorem stream_byt (k n : Int) (m : Nat) : Byt (stream k n m) := (strm_byt _ _ _).take m
theorem streamc_loop (k n : Int) (m : Nat) (hm : m ≤ 1024) : ∀ (j : Nat), j ≤ (m + 7) / 8 →
    loopFix seal_Stream_l4 ((k, n, (m : Int), (), (((m + 7) / 8 - j : Nat) : Int)), strm k n ((m + 7) / 8 - j)) = some (((m : Int), ()), strm k n ((m + 7) / 8)) := by
  intro j
  induction j with
  | zero =>
    intro _
    refine loopFix_inr ?_
    unfold seal_Stream_l4
    dsimp only
    rw [condF' (by rw [strm_len]; simp; omega)]
    rfl
  | succ j ih =>
    intro hj
    rw [← ih (by omega)]
    obtain ⟨q, hq⟩ : ∃ q, q = (m + 7) / 8 - (j + 1) := ⟨_, rfl⟩
    have hq2 : (m + 7) / 8 - j = q + 1 := by omega
    rw [← hq, hq2]
    refine loopFix_inl ?_
    unfold seal_Stream_l4
    dsimp only
    rw [condT' (by rw [strm_len]; simp; omega), wordsc _ (by simp), Option.bind_some, macc _ _ _ (wbs_byt _) (by rw [wbs_len]; simp [maxLen]), Option.bind_some, wordsc _ (by simp), Option.bind_some]
    have e : wbs [mac k 5 (wbs [n, (q : Int)])] = wb (mac k 5 (wbs [n, (q : Int)])) := by simp [wbs]
    rw [condT' (by rw [List.length_append, strm_len, wbs_len]; simp; omega), wrapU64 (by omega) (by omega), strm_succ, e]
    rfl
theorem streamc (k n : Int) (m : Nat) (hm : m ≤ 1024) : seal_Stream k n (m : Int) = some ((), stream k n m) := by
  unfold seal_Stream
  have e : (if (if 1024 < (m : Int) then 1024 else (m : Int)) > 0 then (if 1024 < (m : Int) then 1024 else (m : Int)) else 0) = (m : Int) := by
    have h1 : (if 1024 < (m : Int) then (1024 : Int) else (m : Int)) = m := if_neg (by omega)
    rw [h1]; split <;> omega
  have := streamc_loop k n m hm ((m + 7) / 8) (Nat.le_refl _)
  rw [Nat.sub_self] at this
  have h0 : loopFix seal_Stream_l4 ((k, n, (m : Int), (), 0), []) = _ := this
  rw [e, Option.bind_some, h0, Option.bind_some]
  dsimp only
  rw [condT' (okBounds_true (by omega) (by omega) (by rw [strm_len]; omega)), cut_take]
  rfl
theorem streamr_loop (k n : Int) (m : Nat) (hm : m ≤ 1024) : ∀ (j : Nat), j ≤ (m + 7) / 8 →
    loopFix ref3_Stream_l4 ((k, n, (m : Int), (), (((m + 7) / 8 - j : Nat) : Int)), strm k n ((m + 7) / 8 - j)) = some (((m : Int), ()), strm k n ((m + 7) / 8)) := by
  intro j
  induction j with
  | zero =>
    intro _
    refine loopFix_inr ?_
    unfold ref3_Stream_l4
    dsimp only
    rw [condF' (by rw [strm_len]; simp; omega)]
    rfl
  | succ j ih =>
    intro hj
    rw [← ih (by omega)]
    obtain ⟨q, hq⟩ : ∃ q, q = (m + 7) / 8 - (j + 1) := ⟨_, rfl⟩
    have hq2 : (m + 7) / 8 - j = q + 1 := by omega
    rw [← hq, hq2]
    refine loopFix_inl ?_
    unfold ref3_Stream_l4
    dsimp only
    rw [condT' (by rw [strm_len]; simp; omega), wrapU64 (n := (q : Int)) (by omega) (by omega), wordsr _ (by simp), Option.bind_some, macr _ _ _ (wbs_byt _) (by rw [wbs_len]; simp), Option.bind_some, wordsr _ (by simp), Option.bind_some]
    have e : wbs [mac k 5 (wbs [n, (q : Int)])] = wb (mac k 5 (wbs [n, (q : Int)])) := by simp [wbs]
    rw [condT' (by rw [List.length_append, strm_len, wbs_len]; simp; omega), wrap64 (by omega) (by omega), strm_succ, e]
    rfl
theorem streamr (k n : Int) (m : Nat) (hm : m ≤ 1024) : ref3_Stream k n (m : Int) = some ((), stream k n m) := by
  unfold ref3_Stream
  have e : (if 1024 < (if 0 > (m : Int) then 0 else (m : Int)) then 1024 else (if 0 > (m : Int) then 0 else (m : Int))) = (m : Int) := by
    rw [if_neg (show ¬ (0 > (m : Int)) by omega), if_neg (by omega)]
  have := streamr_loop k n m hm ((m + 7) / 8) (Nat.le_refl _)
  rw [Nat.sub_self] at this
  have h0 : loopFix ref3_Stream_l4 ((k, n, (m : Int), (), 0), []) = _ := this
  rw [e, Option.bind_some, h0, Option.bind_some]
  dsimp only
  rw [condT' (okBounds_true (by omega) (by omega) (by rw [strm_len]; omega)), cut_take]
  rfl
end Go.Px
