/-
Chapter 30: the law's own test, and AccountNames.
-/
import Derived.Test.YthoooflagabpoaaDoorEvLusr
set_option linter.unusedVariables false
set_option linter.unusedSimpArgs false
set_option maxRecDepth 20000
namespace Go.Px
open Go Go.Ev
abbrev R1 : List PD := [.agg [.int .i64 0, .int .i64 1]]
abbrev R2 : List PD := [.agg [.int .i64 0, .int .i64 1], .agg [.int .i64 2, .int .i64 3]]
theorem ixA_nil (f : Int) : slices_IndexFunc_Lapi_Range_api_Range_026 [] f = some (-1, f) := by
  unfold slices_IndexFunc_Lapi_Range_api_Range_026
  rw [loopFix_inr (r := .inr ((), f)) rfl]
  rfl
theorem ixB_nil (f : Int) : slices_IndexFunc_Lapi_Range_api_Range_b38 [] f = some (-1, f) := by
  unfold slices_IndexFunc_Lapi_Range_api_Range_b38
  rw [loopFix_inr (r := .inr ((), f)) rfl]
  rfl
theorem ixA_1 : slices_IndexFunc_Lapi_Range_api_Range_026 R1 2 = some (-1, 2) := by
  unfold slices_IndexFunc_Lapi_Range_api_Range_026
  rw [loopFix_inl (s' := ((R1, ((), ()), 1, 1), 2)) (by kernel_rfl), loopFix_inr (r := .inr ((), 2)) (by kernel_rfl)]
  rfl
theorem ixB_1 : slices_IndexFunc_Lapi_Range_api_Range_b38 R1 2 = some (-1, 2) := by
  unfold slices_IndexFunc_Lapi_Range_api_Range_b38
  rw [loopFix_inl (s' := ((R1, ((), ()), 1, 1), 2)) (by kernel_rfl), loopFix_inr (r := .inr ((), 2)) (by kernel_rfl)]
  rfl
theorem ixA_2 : slices_IndexFunc_Lapi_Range_api_Range_026 R2 0 = some (0, 0) := by
  unfold slices_IndexFunc_Lapi_Range_api_Range_026
  rw [loopFix_inr (r := .inl (0, 0)) (by kernel_rfl)]
  rfl
theorem clone_nil : slices_Clone_Lapi_Range_api_Range [] = some ((), []) := by
  unfold slices_Clone_Lapi_Range_api_Range
  rw [condT' (by rfl)]
  exact ambO_eq (by rfl)
theorem clone_1 : slices_Clone_Lapi_Range_api_Range R1 = some ((), R1) := by kernel_rfl
theorem ins_0 : slices_Insert_Lapi_Range_api_Range_277 0 [] R1 = some ((), (), R1, R1) := by kernel_rfl
theorem ins_1 : slices_Insert_Lapi_Range_api_Range_277 1 R1 [.agg [.int .i64 2, .int .i64 3]] = some ((), (), [.agg [.int .i64 2, .int .i64 3]], R2) := by kernel_rfl
theorem acc1 (id : List Int) : account_Accept id 2 5 0 0 false 0 [] false 3 0 1 0 7 = some ((id, 2, 5, 0, 0, false, 2, R1, false, 3, 7), 0) := by
  unfold account_Accept
  rw [ixA_nil, clone_nil]
  simp only [Option.bind_some]
  rw [ixB_nil]
  kernel_rfl
theorem acc2 (id : List Int) : account_Accept id 2 5 0 0 false 2 R1 false 3 7 3 2 8 = some ((id, 2, 5, 0, 0, false, 10, R2, false, 3, 8), 0) := by
  unfold account_Accept
  rw [ixA_1, clone_1]
  simp only [Option.bind_some]
  rw [ixB_1]
  kernel_rfl
theorem acc3 (id : List Int) : account_Accept id 2 5 0 0 false 10 R2 false 3 8 0 0 9 = some ((id, 2, 5, 0, 0, false, 10, R2, false, 3, 8), 37) := by
  unfold account_Accept
  rw [ixA_2]
  kernel_rfl
theorem acc4 (id : List Int) : account_Accept id 2 5 0 0 false 10 R2 false 3 8 3 2 9 = some ((id, 2, 5, 0, 0, false, 10, R2, true, 3, 8), 37) := by
  kernel_rfl
theorem stored_val : ∃ id, id.length = 176 ∧ Byt id ∧ law30_stored 1 2 = some (id, 2, 5, 0, 0, false, 0, [], false, 3, 0) := by
  refine ⟨stream 602 7 176, stream_len _ _ _, stream_byt _ _ _, ?_⟩
  unfold law30_stored
  rw [show cast_Mod 1 12 = some 1 by kernel_rfl, Option.bind_some]
  have h : cast_Bytes (IntKind.i64.wrap (600 + 1)) 176 = some ((), stream 602 7 176) := by
    unfold cast_Bytes
    rw [Option.bind_some, Option.bind_some]
    have := streamr 602 7 176 (by omega)
    exact congrArg (fun o => Option.bind o (fun y3 => some ((), y3.2))) this
  rw [h]
  rfl
def alice : ByteArray := bs [97, 108, 105, 99, 101]
def enr (c : PD) : List PD := [.agg [.str alice, .str (bs [117]), .sl 11 [c]]]
theorem owner_nil (b : List Int) : account_Owner [] b = some (0, 0, false) := by
  unfold account_Owner
  rw [loopFix_inr (r := .inr ()) rfl]
  rfl
theorem find_nil (s : ByteArray) : account_Find [] s = some (0, false) := by
  unfold account_Find
  rw [loopFix_inr (r := .inr ()) rfl]
  rfl
theorem find_one (n u : ByteArray) (C : List PD) (s : ByteArray) : account_Find [.agg [.str n, .str u, .sl 11 C]] s = some (0, strEq n s) := by
  unfold account_Find
  have hs : account_Find_l2 (s, [.agg [.str n, .str u, .sl 11 C]], ((([PD.agg [.str n, .str u, .sl 11 C]].length) : Nat) : Int), 0) = cond (strEq n s) (some (.inr (.inl (0, true)))) (some (.inl (s, [.agg [.str n, .str u, .sl 11 C]], ((([PD.agg [.str n, .str u, .sl 11 C]].length) : Nat) : Int), 1))) := rfl
  cases h : strEq n s with
  | true =>
    rw [h, cond_true] at hs
    rw [loopFix_inr hs]
    rfl
  | false =>
    rw [h, cond_false] at hs
    rw [loopFix_inl hs, loopFix_inr (r := .inr ()) rfl]
    rfl
theorem cloneA_nil : account_clone [] = some ((), []) := by
  unfold account_clone
  rw [condT' (by decide), Option.bind_some, loopFix_inr (r := ((), [])) rfl]
  rfl
theorem enroll_val (id : List Int) (hid : id.length = 176) : account_Enroll [] alice (bs [117]) id 2 5 0 0 false 10 R2 false 3 8 = some (((), 0), enr (.agg [.nums .u8 id, .int .i64 2, .int .u64 5, .int .u64 0, .int .i64 0, .bool false, .int .u64 10, .sl 2 R2, .bool false, .int .i64 3, .int .i64 8])) := by
  unfold account_Enroll
  rw [hid, owner_nil, find_nil, cloneA_nil]
  kernel_rfl
theorem awake_true : law30_awake = some true := by
  obtain ⟨id, h1, h2, h3⟩ := stored_val
  unfold law30_awake
  rw [h3, Option.bind_some]
  dsimp only
  rw [acc1, Option.bind_some]
  dsimp only
  rw [acc2, Option.bind_some]
  dsimp only
  rw [acc3, Option.bind_some, acc4, Option.bind_some]
  dsimp only
  have he := enroll_val id h1
  unfold alice at he
  rw [he, Option.bind_some]
  dsimp only
  unfold enr
  rw [find_one, show strEq alice (bs [97, 108, 105, 99, 101]) = true from strEq_refl _, Option.bind_some]
  have hal : ∀ C, ∃ L, account_Allowed [.agg [.str alice, .str (bs [117]), .sl 11 C]] 1 (bs [98, 111, 98]) = some ((), L) ∧ L.length = 4 := fun C => by
    unfold account_Allowed
    rw [find_one, show strEq alice (bs [98, 111, 98]) = false by
      cases h : strEq alice (bs [98, 111, 98]) with
      | false => rfl
      | true =>
        have := congrArg ByteArray.size ((strEq_iff _ _).1 h)
        revert this
        decide, Option.bind_some, cond_false]
    have := allowc 1 (bs [98, 111, 98]) [] (fun r h => by simp at h) (by simp) (by decide)
    refine ⟨_, by rw [show account_Allowed_j10 ((1, bs [98, 111, 98], ()), []) = _ from this]; rfl, ?_⟩
    simp [sortR_len, dec_len]
  obtain ⟨L, h4, h5⟩ := hal _
  rw [h4, Option.bind_some]
  simp [h5]
theorem mac_nat (k d : Int) (b : List Int) : ∃ m : Nat, m < 2 ^ 64 ∧ mac k d b = (m : Int) := by
  have key : ∀ x y, ∃ m : Nat, m < 2 ^ 64 ∧ bitsI .xor .u64 x y = (m : Int) := fun x y => by
    rw [bitsI_eq]
    show ∃ m : Nat, _ ∧ IntKind.u64.wrap _ = _
    generalize ((BitVec.ofInt IntKind.u64.bits x ^^^ BitVec.ofInt IntKind.u64.bits y).toNat : Int) = z
    refine ⟨(IntKind.u64.wrap z).toNat, ?_, ?_⟩
    · rw [IntKind.wrap_u64]; omega
    · have := wrapU64_nonneg z; omega
  exact key _ _
theorem names_true (secret : Int) (name : ByteArray) : law30_AccountNames secret name = some true := by
  unfold law30_AccountNames
  by_cases hn : ((name.size : Nat) : Int) > 200
  · rw [condT' (by simpa using hn), awake_true]
    rfl
  · rw [condF' (by simpa using hn)]
    obtain ⟨m, hm, he⟩ := mac_nat secret 19 (bytesOf name)
    rw [userc secret name (by omega) m hm he, Option.bind_some, userr secret name (by omega) m hm he, Option.bind_some, strEq_refl, cond_true, strOf_size, hexR_len, condT' (by rfl)]
    have a1 : account_Allowed [] secret name = some ((), rowsP (sortR ([] ++ dec (mac secret 20 (bytesOf name)) 4))) := by
      unfold account_Allowed
      rw [find_nil, Option.bind_some, cond_false]
      have := allowc secret name [] (fun r h => by simp at h) (by simp) (by omega)
      rw [show account_Allowed_j10 ((secret, name, ()), []) = _ from this]
      rfl
    have a2 : ref29_Allowed [] secret name = some ((), rowsP (sortR ([] ++ dec (mac secret 20 (bytesOf name)) 4))) := by
      unfold ref29_Allowed
      rw [show ref29_FindAccount [] name = some (0, false) by
        unfold ref29_FindAccount
        rw [loopFix_inr (r := .inr ()) rfl]
        rfl, Option.bind_some, cond_false]
      have := allowr secret name [] (fun r h => by simp at h) (by simp) (by omega)
      rw [show ref29_Allowed_j10 ((secret, name, ()), []) = _ from this]
      rfl
    rw [a1, Option.bind_some, a2, Option.bind_some]
    dsimp only
    rw [samelist _ (by rw [sortR_len]; simp [dec_len]), Option.bind_some, cond_true, awake_true]
    rfl
end Go.Px
