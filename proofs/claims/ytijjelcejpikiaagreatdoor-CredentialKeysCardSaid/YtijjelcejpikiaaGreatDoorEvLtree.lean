/-
One-time keys and trees of them: the program's and the reference's are the same.
-/
import Derived.Test.YtijjelcejpikiaaGreatDoorEvLdig
set_option linter.unusedVariables false
set_option linter.unusedSimpArgs false
set_option maxRecDepth 20000
namespace Go.Px
open Go Go.Ev
def hash (d : Int) (b : List Int) : Int := sip (IntKind.u64.wrap d) 0 b
theorem hashc (d : Int) (b : List Int) (hb : Byt b) (hm : b.length ≤ 281474976710656) : digest_Hash d b = some (hash d b) := by
  unfold digest_Hash
  rw [sumc _ _ b hb (by unfold maxLen; omega)]
  rfl
theorem hashr (d : Int) (b : List Int) (hb : Byt b) (hm : b.length ≤ 281474976710656) : ref1_Hash d b = some (hash d b) := by
  unfold ref1_Hash
  rw [sumr _ _ b hb hm]
  rfl
/-! ### Chains -/
def run (leaf chain : Int) : Nat → Nat → Int → Int
  | 0, _, x => x
  | k + 1, p, x => run leaf chain k (p + 1) (hash 1 (wbs [IntKind.u64.wrap leaf, IntKind.u64.wrap chain, (p : Int), x]))
theorem runc_loop (leaf chain : Int) (t : Int) (T : Nat) (hT : T ≤ 15) (ht : (if 15 < t then 15 else t) = (T : Int)) : ∀ (k p : Nat) (x : Int), T - p = k → p ≤ T →
    loopFix onetime_Run_l2 (leaf, chain, t, x, (p : Int)) = some (run leaf chain k p x) := by
  intro k
  induction k with
  | zero =>
    intro p x hk hp
    refine loopFix_inr ?_
    unfold onetime_Run_l2
    dsimp only
    rw [ht, condF' (by simp; omega)]
    rfl
  | succ k ih =>
    intro p x hk hp
    rw [run, ← ih (p + 1) _ (by omega) (by omega)]
    refine loopFix_inl ?_
    unfold onetime_Run_l2
    dsimp only
    rw [ht, condT' (by simp; omega), wrapU64 (n := (p : Int)) (by omega) (by omega), wordsc _ (by simp), Option.bind_some, hashc _ _ (wbs_byt _) (by rw [wbs_len]; simp), Option.bind_some, wrap64 (by omega) (by omega)]
    rfl
theorem runr_loop (leaf chain : Int) (t : Int) (T : Nat) (hT : T ≤ 15) (ht : (if 15 < t then 15 else t) = (T : Int)) : ∀ (k p : Nat) (x : Int), T - p = k → p ≤ T →
    loopFix ref3_Run_l2 (leaf, chain, t, x, (p : Int)) = some (run leaf chain k p x) := by
  intro k
  induction k with
  | zero =>
    intro p x hk hp
    refine loopFix_inr ?_
    unfold ref3_Run_l2
    dsimp only
    rw [ht, condF' (by simp; omega)]
    rfl
  | succ k ih =>
    intro p x hk hp
    rw [run, ← ih (p + 1) _ (by omega) (by omega)]
    refine loopFix_inl ?_
    unfold ref3_Run_l2
    dsimp only
    rw [ht, condT' (by simp; omega), wrapU64 (n := (p : Int)) (by omega) (by omega), wordsr _ (by simp), Option.bind_some, hashr _ _ (wbs_byt _) (by rw [wbs_len]; simp), Option.bind_some, wrap64 (by omega) (by omega)]
    rfl
theorem runc (leaf chain x : Int) (T : Nat) (hT : T ≤ 15) : onetime_Run leaf chain 0 (T : Int) x = some (run leaf chain T 0 x) := by
  unfold onetime_Run
  have := runc_loop leaf chain (T : Int) T hT (if_neg (by omega)) T 0 x rfl (by omega)
  rw [show (if (0 : Int) > 0 then (0 : Int) else 0) = ((0 : Nat) : Int) by simp, this]
  rfl
theorem runr (leaf chain x : Int) (T : Nat) (hT : T ≤ 15) : ref3_Run leaf chain 0 (T : Int) x = some (run leaf chain T 0 x) := by
  unfold ref3_Run
  have := runr_loop leaf chain (T : Int) T hT (if_neg (by omega)) T 0 x rfl (by omega)
  rw [show (if (0 : Int) > 0 then (0 : Int) else 0) = ((0 : Nat) : Int) by simp, this]
  rfl
def sec (seed leaf : Int) (i : Nat) : Int := mac seed 1 (wbs [IntKind.u64.wrap leaf, (i : Int)])
theorem secc (seed leaf : Int) (i : Nat) (hi : i < 1000) : onetime_Secret seed leaf (i : Int) = some (sec seed leaf i) := by
  unfold onetime_Secret
  rw [wrapU64 (n := (i : Int)) (by omega) (by omega), wordsc _ (by simp), Option.bind_some, macc _ _ _ (wbs_byt _) (by rw [wbs_len]; simp [maxLen])]
  rfl
theorem secr (seed leaf : Int) (i : Nat) (hi : i < 1000) : ref3_Secret seed leaf (i : Int) = some (sec seed leaf i) := by
  unfold ref3_Secret
  rw [wrapU64 (n := (i : Int)) (by omega) (by omega), wordsr _ (by simp), Option.bind_some, macr _ _ _ (wbs_byt _) (by rw [wbs_len]; simp)]
  rfl
/-! ### Rows that are filled -/
def fil {A : Type} (f : Nat → A) (z : A) (n j : Nat) : List A := (List.range j).map f ++ List.replicate (n - j) z
theorem fil_len {A : Type} (f : Nat → A) (z : A) (n j : Nat) (h : j ≤ n) : (fil f z n j).length = n := by simp [fil]; omega
theorem fil_set {A : Type} (f : Nat → A) (z : A) (n j : Nat) (h : j < n) : (fil f z n j).set j (f j) = fil f z n (j + 1) := by
  unfold fil
  rw [List.set_append_right _ _ (by simp), List.range_succ, List.map_append, List.append_assoc]
  congr 1
  simp only [List.length_map, List.length_range, Nat.sub_self]
  rw [show n - j = (n - (j + 1)) + 1 by omega, List.replicate_succ, List.set_cons_zero]
  rfl
theorem fil_all {A : Type} (f : Nat → A) (z : A) (n : Nat) : fil f z n n = (List.range n).map f := by simp [fil]
theorem fil_0 {A : Type} (f : Nat → A) (z : A) (n : Nat) : fil f z n 0 = List.replicate n z := by simp [fil]
/-! ### A leaf -/
def lastv (seed leaf : Int) (i : Nat) : Int := run leaf (i : Int) 15 0 (sec seed leaf i)
def leafv (seed leaf : Int) : Int := hash 2 (wbs (IntKind.u64.wrap leaf :: (List.range 18).map (lastv seed leaf)))
theorem endc_loop (seed leaf : Int) : ∀ (k j : Nat), 18 - j = k → j ≤ 18 → loopFix onetime_Public_l3 ((seed, leaf, (), (j : Int)), fil (fun _ => (15 : Int)) 0 18 j) = some ((seed, leaf, ()), List.replicate 18 15) := by
  intro k
  induction k with
  | zero =>
    intro j hk hj
    refine loopFix_inr ?_
    unfold onetime_Public_l3
    dsimp only
    rw [condF' (by simp; omega), show j = 18 by omega, fil_all]
    rfl
  | succ k ih =>
    intro j hk hj
    rw [← ih (j + 1) (by omega) (by omega)]
    refine loopFix_inl ?_
    unfold onetime_Public_l3
    dsimp only
    rw [condT' (by simp; omega), condT' (by simp [inRange]; omega), condT' (by simp; omega), wrap64 (by omega) (by omega), Int.toNat_natCast, fil_set (fun _ => (15 : Int)) 0 18 j (by omega)]
    rfl
theorem atc_loop (seed leaf : Int) : ∀ (k j : Nat), 18 - j = k → j ≤ 18 → loopFix onetime_at_l2 ((seed, leaf, (), (), (j : Int)), (List.replicate 18 15, fil (lastv seed leaf) 0 18 j)) = some ((), (List.range 18).map (lastv seed leaf)) := by
  intro k
  induction k with
  | zero =>
    intro j hk hj
    refine loopFix_inr ?_
    unfold onetime_at_l2
    dsimp only
    rw [condF' (by simp; omega), show j = 18 by omega, fil_all]
  | succ k ih =>
    intro j hk hj
    rw [← ih (j + 1) (by omega) (by omega)]
    refine loopFix_inl ?_
    unfold onetime_at_l2
    dsimp only
    have h15 : (List.replicate 18 (15 : Int))[j]? = some 15 := by rw [List.getElem?_replicate, if_pos (by omega)]
    rw [condT' (by simp; omega), condT' (by simp [inRange]; omega), Int.toNat_natCast, h15, Option.bind_some, secc _ _ _ (by omega), Option.bind_some, show (15 : Int) = ((15 : Nat) : Int) from rfl, runc _ _ _ 15 (by omega), Option.bind_some,
      condT' (by simp [inRange]; omega), condT' (by simp; omega), wrap64 (by omega) (by omega)]
    have := fil_set (lastv seed leaf) 0 18 j (by omega)
    unfold lastv at this ⊢
    rw [this]
    rfl
theorem leafc (seed leaf : Int) : onetime_Public seed leaf = some (leafv seed leaf) := by
  unfold onetime_Public
  have h := endc_loop seed leaf 18 0 rfl (by omega)
  rw [fil_0] at h
  have h0 : loopFix onetime_Public_l3 ((seed, leaf, (), 0), [0, 0, 0, 0, 0, 0, 0, 0, 0, 0, 0, 0, 0, 0, 0, 0, 0, 0]) = _ := h
  rw [h0, Option.bind_some]
  dsimp only
  unfold onetime_at
  have h2 := atc_loop seed leaf 18 0 rfl (by omega)
  rw [fil_0] at h2
  have h3 : loopFix onetime_at_l2 ((seed, leaf, (), (), 0), (List.replicate 18 15, [0, 0, 0, 0, 0, 0, 0, 0, 0, 0, 0, 0, 0, 0, 0, 0, 0, 0])) = _ := h2
  rw [h3, Option.bind_some, Option.bind_some]
  unfold onetime_word
  have e : (([IntKind.u64.wrap leaf] ++ List.drop 0 (List.take 18 ((List.range 18).map (lastv seed leaf)))) : List Int) = IntKind.u64.wrap leaf :: (List.range 18).map (lastv seed leaf) := by
    rw [List.take_of_length_le (by simp)]
    rfl
  rw [e, condT' (by simp), Option.bind_some, wordsc _ (by simp), Option.bind_some, hashc _ _ (wbs_byt _) (by rw [wbs_len]; simp)]
  rfl
theorem leafr_loop (seed leaf : Int) : ∀ (k j : Nat), 18 - j = k → j ≤ 18 → loopFix ref3_Leaf_l3 ((seed, leaf, (), (j : Int)), (List.range j).map (lastv seed leaf)) = some ((leaf, ()), (List.range 18).map (lastv seed leaf)) := by
  intro k
  induction k with
  | zero =>
    intro j hk hj
    refine loopFix_inr ?_
    unfold ref3_Leaf_l3
    dsimp only
    rw [condF' (by simp; omega), show j = 18 by omega]
  | succ k ih =>
    intro j hk hj
    rw [← ih (j + 1) (by omega) (by omega)]
    refine loopFix_inl ?_
    unfold ref3_Leaf_l3
    dsimp only
    rw [condT' (by simp; omega), secr _ _ _ (by omega), Option.bind_some, show (15 : Int) = ((15 : Nat) : Int) from rfl, runr _ _ _ 15 (by omega), Option.bind_some, condT' (by simp; omega), wrap64 (by omega) (by omega), List.range_succ, List.map_append]
    rfl
theorem leafr (seed leaf : Int) : ref3_Leaf seed leaf = some (leafv seed leaf) := by
  unfold ref3_Leaf
  have h := leafr_loop seed leaf 18 0 rfl (by omega)
  have h0 : loopFix ref3_Leaf_l3 ((seed, leaf, (), 0), []) = _ := h
  rw [h0, Option.bind_some]
  unfold ref3_ends
  rw [wordsr _ (by simp), Option.bind_some, wordsr _ (by simp), Option.bind_some]
  dsimp only
  have e : wbs [IntKind.u64.wrap leaf] ++ wbs ((List.range 18).map (lastv seed leaf)) = wbs (IntKind.u64.wrap leaf :: (List.range 18).map (lastv seed leaf)) := by simp [wbs]
  rw [e, condT' (by rw [wbs_len]; simp), hashr _ _ (wbs_byt _) (by rw [wbs_len]; simp)]
  rfl
/-! ### Trees -/
def nodev (level a b : Int) : Int := hash 3 (wbs [level, a, b])
def tree (seed : Int) : Nat → Nat → Int
  | 0, i => leafv seed (i : Int)
  | k + 1, i => nodev ((k + 1 : Nat) : Int) (tree seed k (2 * i)) (tree seed k (2 * i + 1))
theorem nodec (k : Nat) (hk : k < 1000) (a b : Int) : treekey_node (k : Int) a b = some (nodev (k : Int) a b) := by
  unfold treekey_node
  rw [wrapU64 (n := (k : Int)) (by omega) (by omega), wordsc _ (by simp), Option.bind_some, hashc _ _ (wbs_byt _) (by rw [wbs_len]; simp)]
  rfl
theorem noder (k : Nat) (hk : k < 1000) (a b : Int) : ref3_parent (k : Int) a b = some (nodev (k : Int) a b) := by
  unfold ref3_parent
  rw [wrapU64 (n := (k : Int)) (by omega) (by omega), wordsr _ (by simp), Option.bind_some, hashr _ _ (wbs_byt _) (by rw [wbs_len]; simp)]
  rfl
theorem treer_n (seed : Int) : ∀ (k n i : Nat), k < n → k ≤ 20 → i + 1 ≤ 2 ^ (20 - k) → ref3_node_n n seed (k : Int) (i : Int) = some (tree seed k i) := by
  intro k
  induction k with
  | zero =>
    intro n i hn _ hi
    obtain ⟨m, rfl⟩ : ∃ m, n = m + 1 := ⟨n - 1, by omega⟩
    rw [ref3_node_n]
    unfold ref3_node_F
    rw [condT' (by simp), leafr]
    rfl
  | succ k ih =>
    intro n i hn hk hi
    obtain ⟨m, rfl⟩ : ∃ m, n = m + 1 := ⟨n - 1, by omega⟩
    rw [ref3_node_n]
    unfold ref3_node_F
    have e : 2 ^ (20 - k) = 2 * 2 ^ (20 - (k + 1)) := by
      rw [show 20 - k = (20 - (k + 1)) + 1 by omega, Nat.pow_succ, Nat.mul_comm]
    have hb : 2 ^ (20 - (k + 1)) ≤ 2 ^ 20 := Nat.pow_le_pow_right (by omega) (by omega)
    have hb2 : (2 : Nat) ^ 20 = 1048576 := by decide
    rw [condF' (by simp; omega), wrap64 (n := ((k + 1 : Nat) : Int) - 1) (by omega) (by omega), wrap64 (n := 2 * (i : Int)) (by omega) (by omega), show ((k + 1 : Nat) : Int) - 1 = (k : Int) by omega, show 2 * (i : Int) = ((2 * i : Nat) : Int) by omega,
      ih m (2 * i) (by omega) (by omega) (by omega), Option.bind_some, Option.bind_some, wrap64 (n := ((2 * i : Nat) : Int) + 1) (by omega) (by omega), show ((2 * i : Nat) : Int) + 1 = ((2 * i + 1 : Nat) : Int) by omega, ih m (2 * i + 1) (by omega) (by omega) (by omega), Option.bind_some,
      noder (k + 1) (by omega)]
    rfl
theorem treer (seed : Int) (k i : Nat) (hk : k ≤ 20) (hi : i + 1 ≤ 2 ^ (20 - k)) : ref3_node seed (k : Int) (i : Int) = some (tree seed k i) := treer_n seed k 40 i (by omega) hk hi
def row (seed : Int) (n k : Nat) : List Int := (List.range n).map (tree seed k)
theorem row_len (seed : Int) (n k : Nat) : (row seed n k).length = n := by simp [row]
theorem row_at (seed : Int) (n k i : Nat) (h : i < n) : getI (row seed n k) (i : Int) = some (tree seed k i) := by
  rw [getI_at _ i (by rw [row_len]; exact h)]
  simp [row]
theorem leaves_loop (seed h : Int) (n : Nat) (hn : n ≤ 1000) : ∀ (m j : Nat), n - j = m → j ≤ n → loopFix treekey_levels_l3 ((seed, h, (), (n : Int), (j : Int)), fil (tree seed 0) 0 n j) = some ((h, ()), row seed n 0) := by
  intro m
  induction m with
  | zero =>
    intro j hk hj
    refine loopFix_inr ?_
    unfold treekey_levels_l3
    dsimp only
    rw [condF' (by simp; omega), show j = n by omega, fil_all]
    rfl
  | succ m ih =>
    intro j hk hj
    rw [← ih (j + 1) (by omega) (by omega)]
    refine loopFix_inl ?_
    unfold treekey_levels_l3
    dsimp only
    rw [condT' (by simp; omega), leafc, Option.bind_some, fil_len _ _ _ _ (by omega), condT' (by simp [inRange]; omega), condT' (by simp; omega), wrap64 (by omega) (by omega), Int.toNat_natCast]
    have := fil_set (tree seed 0) 0 n j (by omega)
    rw [show tree seed 0 j = leafv seed (j : Int) from rfl] at this
    rw [this]
    rfl
theorem level_loop (seed h : Int) (k n : Nat) (hk : k < 100) (hn : n ≤ 1000) (all : List PD) : ∀ (m j : Nat), n - j = m → j ≤ n →
    loopFix treekey_levels_l13 ((h, row seed (2 * n) k, (), ((k + 1 : Nat) : Int), (), (n : Int), (j : Int)), (all, fil (tree seed (k + 1)) 0 n j)) = some ((h, (), ((k + 1 : Nat) : Int), ()), (all, row seed n (k + 1))) := by
  intro m
  induction m with
  | zero =>
    intro j hm hj
    refine loopFix_inr ?_
    unfold treekey_levels_l13
    dsimp only
    rw [condF' (by simp; omega), show j = n by omega, fil_all]
    rfl
  | succ m ih =>
    intro j hm hj
    rw [← ih (j + 1) (by omega) (by omega)]
    refine loopFix_inl ?_
    unfold treekey_levels_l13
    dsimp only
    rw [condT' (by simp; omega), wrap64 (n := 2 * (j : Int)) (by omega) (by omega), show 2 * (j : Int) = ((2 * j : Nat) : Int) by omega, row_at _ _ _ _ (by omega), Option.bind_some, Option.bind_some, wrap64 (n := ((2 * j : Nat) : Int) + 1) (by omega) (by omega),
      show ((2 * j : Nat) : Int) + 1 = ((2 * j + 1 : Nat) : Int) by omega, row_at _ _ _ _ (by omega), Option.bind_some, nodec (k + 1) (by omega), Option.bind_some, fil_len _ _ _ _ (by omega), condT' (by simp [inRange]; omega), condT' (by simp; omega), wrap64 (by omega) (by omega), Int.toNat_natCast]
    have := fil_set (tree seed (k + 1)) 0 n j (by omega)
    rw [tree] at this
    rw [this]
    rfl
def lv (seed : Int) (h k : Nat) : PD := .nums .u64 (row seed (2 ^ (h - k)) k)
theorem levels_loop (seed : Int) (h : Nat) (hh : h ≤ 9) : ∀ (m k : Nat), h - k = m → k ≤ h →
    loopFix treekey_levels_l9 (((h : Int), row seed (2 ^ (h - k)) k, (), ((k + 1 : Nat) : Int)), (List.range (k + 1)).map (lv seed h)) = some ((), (List.range (h + 1)).map (lv seed h)) := by
  intro m
  induction m with
  | zero =>
    intro k hm hk
    refine loopFix_inr ?_
    unfold treekey_levels_l9
    dsimp only
    rw [condF' (by simp; omega), show k = h by omega]
  | succ m ih =>
    intro k hm hk
    rw [← ih (k + 1) (by omega) (by omega)]
    have e : 2 ^ (h - k) = 2 * 2 ^ (h - (k + 1)) := by rw [show h - k = (h - (k + 1)) + 1 by omega, Nat.pow_succ, Nat.mul_comm]
    have hb : 2 ^ (h - (k + 1)) ≤ 2 ^ 9 := Nat.pow_le_pow_right (by omega) (by omega)
    obtain ⟨n, hn⟩ : ∃ n, 2 ^ (h - (k + 1)) = n := ⟨_, rfl⟩
    rw [hn] at hb e
    have hb : n ≤ 512 := hb
    rw [e, hn]
    refine loopFix_inl ?_
    unfold treekey_levels_l9
    dsimp only
    rw [condT' (by simp; omega), row_len, show Int.tdiv ((2 * n : Nat) : Int) 2 = (n : Int) by rw [show ((2 * n : Nat) : Int) = 2 * (n : Int) by omega]; exact Int.mul_tdiv_cancel_left _ (by omega), wrap64 (n := (n : Int)) (by omega) (by omega), Option.bind_some, condT' (by simp; omega), Option.bind_some, Int.toNat_natCast, List.length_replicate]
    have hl := level_loop seed (h : Int) k n (by omega) (by omega) ((List.range (k + 1)).map (lv seed h)) n 0 rfl (by omega)
    rw [fil_0] at hl
    have hl : loopFix treekey_levels_l13 (((h : Int), row seed (2 * n) k, (), ((k + 1 : Nat) : Int), (), (n : Int), 0), ((List.range (k + 1)).map (lv seed h), List.replicate n 0)) = _ := hl
    rw [hl, Option.bind_some]
    dsimp only
    rw [condT' (by simp; omega), wrap64 (by omega) (by omega)]
    have hr : (List.range (k + 1)).map (lv seed h) ++ [PD.nums .u64 (row seed n (k + 1))] = (List.range (k + 1 + 1)).map (lv seed h) := by
      rw [List.range_succ (n := k + 1), List.map_append]
      simp [lv, hn]
    rw [hr]
    rfl
theorem levelsc (seed : Int) (h : Nat) (hh : h ≤ 4) : treekey_levels seed (h : Int) = some ((), (List.range (h + 1)).map (lv seed h)) := by
  unfold treekey_levels
  have hs : shlI .i64 1 (h : Int) = ((2 ^ h : Nat) : Int) := by
    have : h = 0 ∨ h = 1 ∨ h = 2 ∨ h = 3 ∨ h = 4 := by omega
    rcases this with rfl | rfl | rfl | rfl | rfl <;> decide
  have hb : 2 ^ h ≤ 2 ^ 4 := Nat.pow_le_pow_right (by omega) hh
  obtain ⟨n, hn⟩ : ∃ n, 2 ^ h = n := ⟨_, rfl⟩
  rw [hn] at hs hb
  have hb : n ≤ 16 := hb
  rw [condT' (by simp), hs, condT' (by simp; omega), Int.toNat_natCast, Option.bind_some, List.length_replicate]
  have h1 := leaves_loop seed (h : Int) n (by omega) n 0 rfl (by omega)
  rw [fil_0] at h1
  have h1 : loopFix treekey_levels_l3 ((seed, (h : Int), (), (n : Int), 0), List.replicate n 0) = _ := h1
  rw [h1, Option.bind_some]
  dsimp only
  have h2 := levels_loop seed h (by omega) h 0 rfl (by omega)
  rw [Nat.sub_zero, hn] at h2
  have h3 : (List.range (0 + 1)).map (lv seed h) = [PD.nums .u64 (row seed n 0)] := by simp [List.range_succ, lv, hn]
  rw [h3] at h2
  have h2 : loopFix treekey_levels_l9 (((h : Int), row seed n 0, (), 1), [PD.nums .u64 (row seed n 0)]) = _ := h2
  rw [h2]
  rfl
/-- The public key is the tree's root. -/
theorem publicc (seed : Int) (h : Int) : treekey_Public seed h = if 0 ≤ h ∧ h ≤ 4 then some ((h, tree seed h.toNat 0), 0) else some ((0, 0), 9) := by
  unfold treekey_Public treekey_tall
  split
  · rename_i hh
    obtain ⟨k, rfl⟩ := Int.eq_ofNat_of_zero_le hh.1
    rw [condT' (by simp), Option.bind_some, condF' (by simp; omega), levelsc seed k (by omega), Option.bind_some]
    dsimp only
    rw [condT' (by simp [inRange]; omega), Int.toNat_natCast, List.getElem?_map, List.getElem?_range (by omega), Option.map_some, Option.bind_some]
    unfold lv
    rw [Nat.sub_self]
    have : PD.numsAt .u64 (.nums .u64 (row seed (2 ^ 0) k)) 0 = some (row seed 1 k) := rfl
    rw [this, Option.bind_some]
    have := row_at seed 1 k 0 (by omega)
    rw [show (0 : Int) = ((0 : Nat) : Int) from rfl, this]
    rfl
  · rename_i hh
    by_cases h0 : 0 ≤ h
    · rw [condT' (by simpa using h0), Option.bind_some, condT' (by simp; omega)]
    · rw [condF' (by simpa using h0), Option.bind_some]
      rfl
theorem publicr (seed : Int) (h : Int) : ref3_Public seed h = if 0 ≤ h ∧ h ≤ 4 then some ((h, tree seed h.toNat 0), 0) else some ((0, 0), 9) := by
  unfold ref3_Public ref3_height
  split
  · rename_i hh
    obtain ⟨k, rfl⟩ := Int.eq_ofNat_of_zero_le hh.1
    rw [condT' (by simp), Option.bind_some, condF' (by simp; omega), show (0 : Int) = ((0 : Nat) : Int) from rfl, treer seed k 0 (by omega) Nat.one_le_two_pow, Option.bind_some]
    rfl
  · rename_i hh
    by_cases h0 : 0 ≤ h
    · rw [condT' (by simpa using h0), Option.bind_some, condT' (by simp; omega)]
    · rw [condF' (by simpa using h0), Option.bind_some]
      rfl
end Go.Px
