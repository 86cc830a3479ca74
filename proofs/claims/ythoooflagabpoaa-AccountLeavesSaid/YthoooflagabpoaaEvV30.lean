/-
Chapter 30: the law's own test tells true.
-/
import Derived.Test.YthoooflagabpoaaEvW30
set_option linter.unusedVariables false
set_option linter.unusedSimpArgs false
namespace Go.Proofs.Ythoooflagabpoaa
open Go Go.Ev
def alice : ByteArray := bs [97, 108, 105, 99, 101]
def bob : ByteArray := bs [98, 111, 98]
theorem f16_nil (s : ByteArray) : f16 [] s = some (0, false) := by
  unfold f16
  rw [loopFix_inr (r := .inr ()) rfl]
  rfl
theorem f16_one (n u : ByteArray) (C : List PD) (s : ByteArray) : f16 [.agg [.str n, .str u, .sl 11 C]] s = some (0, strEq n s) := by
  unfold f16
  have hs : f16l2 (s, [.agg [.str n, .str u, .sl 11 C]], ((([PD.agg [.str n, .str u, .sl 11 C]].length) : Nat) : Int), 0) = cond (strEq n s) (some (.inr (.inl (0, true)))) (some (.inl (s, [.agg [.str n, .str u, .sl 11 C]], ((([PD.agg [.str n, .str u, .sl 11 C]].length) : Nat) : Int), 1))) := rfl
  cases h : strEq n s with
  | true =>
    rw [h, cond_true] at hs
    rw [loopFix_inr hs]
    rfl
  | false =>
    rw [h, cond_false] at hs
    rw [loopFix_inl hs, loopFix_inr (r := .inr ()) rfl]
    rfl
theorem f23_nil (b : List Int) : f23 [] b = some (0, 0, false) := by
  unfold f23
  rw [loopFix_inr (r := .inr ()) rfl]
  rfl
theorem f24_nil : f24 [] = some ((), []) := by
  unfold f24
  rw [show (decide (0 ≤ ((([] : List PD).length : Nat) : Int)) && (decide (((([] : List PD).length : Nat) : Int) ≤ ((([] : List PD).length : Nat) : Int)) && decide (((([] : List PD).length : Nat) : Int) * 56 ≤ 140737488355328))) = true by decide, cond_true,
    loopFix_inr (r := ((), [])) rfl]
  rfl
def enr (id : List Int) (h r m fo : Int) (sh : Bool) (u : Int) (L : List PD) (su : Bool) (si la : Int) : List PD :=
  [.agg [.str alice, .str (bs [117]), .sl 11 [.agg [.nums .u8 id, .int .i64 h, .int .u64 r, .int .u64 m, .int .i64 fo, .bool sh, .int .u64 u, .sl 2 L, .bool su, .int .i64 si, .int .i64 la]]]]
theorem f13_val (id : List Int) (hid : id.length = 176) (h r m fo : Int) (sh : Bool) (u : Int) (L : List PD) (su : Bool) (si la : Int) :
    f13 [] alice (bs [117]) id h r m fo sh u L su si la = some (((), 0), enr id h r m fo sh u L su si la) := by
  have j11 : f13j11 (([], alice, bs [117], (), 0, false), (id, h, r, m, fo, sh, u, L, su, si, la)) = some (((), 0), enr id h r m fo sh u L su si la) := by
    unfold f13j11
    dsimp only
    rw [f24_nil]
    rfl
  have j3 : f13j3 (([], alice, bs [117], ()), (id, h, r, m, fo, sh, u, L, su, si, la)) = some (((), 0), enr id h r m fo sh u L su si la) := by
    unfold f13j3
    dsimp only
    rw [hid, show ((((176 : Nat) : Int)) != 176) = false by decide, cond_false, f23_nil, Option.bind_some, cond_false, f16_nil, Option.bind_some]
    dsimp only
    rw [cond_false, show (!false) = true from rfl, cond_true, show (decide ((((([] : List PD).length) : Nat) : Int) ≥ 16)) = false by decide, cond_false, j11]
    rfl
  unfold f13
  rw [show (decide ((((alice.size) : Nat) : Int) < 1)) = false by kernel_rfl, cond_false, show (decide ((((alice.size) : Nat) : Int) > 32)) = false by kernel_rfl, cond_false, j3]
  rfl
theorem f15j10_gd (s : ByteArray) (hs : s.size ≤ 1000) : Gd (f15j10 ((1, s, ()), [])) fun r => r.2.length = 4 := by
  unfold f15j10
  dsimp only
  refine .condT (by simp; omega) (.bind (f26_gd _ _ _ (by simp [bytesOf]; omega)) fun y1 _ => .bind (Q := fun r => r.2.length = 4 ∧ Rows r.2)
    (Gd.loop (fun (t : (Unit × Int × Int) × List PD) => t.2.length ≤ 4 ∧ Rows t.2) (fun t => 4 - t.2.length) (fun t ht => ?_) _ ⟨by simp, fun x hx => by simp at hx⟩) fun y2 ⟨g1, g2⟩ => .bind (f28_gd y2.2 g1 g2) fun y3 h3 => .pure h3)
  obtain ⟨⟨⟨⟩, k, i⟩, q⟩ := t
  obtain ⟨e1, e2⟩ := ht
  dsimp only at e1 e2
  unfold f15l12
  dsimp only
  refine .cond (fun h => ?_) fun h => .pure ⟨?_, e2⟩
  · have hq : q.length < 4 := by have : (q.length : Int) < 4 := by simpa using h
                                 omega
    refine .bind (f27_gd k i) fun y1 h1 => .condT (by simp; omega) (.pure ?_)
    dsimp only
    refine ⟨⟨by simp; omega, fun x hx => ?_⟩, by simp; omega⟩
    rcases List.mem_append.1 hx with hx | hx
    · exact e2 x hx
    · rw [List.mem_singleton.1 hx]
      exact ⟨y1.2, rfl, by omega⟩
  · have hq : (4 : Int) ≤ q.length := by simpa using h
    show q.length = 4
    omega
theorem f15_gd (id : List Int) (h r m fo : Int) (sh : Bool) (u : Int) (L : List PD) (su : Bool) (si la : Int) : Gd (f15 (enr id h r m fo sh u L su si la) 1 bob) fun r => r.2.length = 4 := by
  unfold f15 enr
  refine .bindS (f16_one _ _ _ _) ?_
  refine .condF (show strEq alice bob = false by kernel_rfl) (.bind (f15j10_gd bob (by decide)) fun y hy => .pure hy)
theorem f7_true : f7 = some true := by
  obtain ⟨id, hid, h10⟩ := f10_gd 1 2
  have asc0 : Asc [] := .nil
  have asc1 : Asc [(0, 1)] := List.pairwise_singleton _ _
  have asc2 : Asc [(0, 1), (2, 3)] := by unfold Asc; simp
  have e1 : f19 id 2 5 0 0 false 0 [] false 3 0 1 0 7 = some ((id, 2, 5, 0, 0, false, 2, rgs [(0, 1)], false, 3, 7), 0) := (f19_val id 2 5 0 0 false 0 [] asc0 (by simp) false 3 0 1 0 7).trans rfl
  have e2 : f19 id 2 5 0 0 false 2 (rgs [(0, 1)]) false 3 7 3 2 8 = some ((id, 2, 5, 0, 0, false, 10, rgs [(0, 1), (2, 3)], false, 3, 8), 0) := (f19_val id 2 5 0 0 false 2 [(0, 1)] asc1 (by simp) false 3 7 3 2 8).trans rfl
  have e3 : f19 id 2 5 0 0 false 10 (rgs [(0, 1), (2, 3)]) false 3 8 0 0 9 = some ((id, 2, 5, 0, 0, false, 10, rgs [(0, 1), (2, 3)], false, 3, 8), 37) := (f19_val id 2 5 0 0 false 10 [(0, 1), (2, 3)] asc2 (by simp) false 3 8 0 0 9).trans rfl
  have e4 : f19 id 2 5 0 0 false 10 (rgs [(0, 1), (2, 3)]) false 3 8 3 2 9 = some ((id, 2, 5, 0, 0, false, 10, rgs [(0, 1), (2, 3)], true, 3, 8), 37) := (f19_val id 2 5 0 0 false 10 [(0, 1), (2, 3)] asc2 (by simp) false 3 8 3 2 9).trans rfl
  have e5 : f13 [] (bs [97, 108, 105, 99, 101]) (bs [117]) id 2 5 0 0 false 10 (rgs [(0, 1), (2, 3)]) false 3 8 = some (((), 0), enr id 2 5 0 0 false 10 (rgs [(0, 1), (2, 3)]) false 3 8) := f13_val id hid 2 5 0 0 false 10 _ false 3 8
  have e6 : f16 (enr id 2 5 0 0 false 10 (rgs [(0, 1), (2, 3)]) false 3 8) (bs [97, 108, 105, 99, 101]) = some (0, true) := by
    have : strEq alice alice = true := strEq_self _
    rw [← this]
    exact f16_one _ _ _ _
  obtain ⟨y8, h8, l8⟩ := f15_gd id 2 5 0 0 false 10 (rgs [(0, 1), (2, 3)]) false 3 8
  have e7 : f15 (enr id 2 5 0 0 false 10 (rgs [(0, 1), (2, 3)]) false 3 8) 1 (bs [98, 111, 98]) = some y8 := h8
  unfold f7
  rw [h10, Option.bind_some]
  dsimp only
  rw [e1, Option.bind_some]
  dsimp only
  rw [e2, Option.bind_some]
  dsimp only
  rw [e3, Option.bind_some, e4, Option.bind_some, e5, Option.bind_some]
  dsimp only
  rw [e6, Option.bind_some]
  dsimp only
  rw [e7, Option.bind_some, l8]
  rfl
end Go.Proofs.Ythoooflagabpoaa
