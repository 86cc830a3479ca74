/-
What the digests of the program and of the reference compute: SipHash over bytes as numbers.
-/
import Derived.Test.YtijjelcejpikiaaGreatDoorEvPv15
import Derived.Laws.Bits64
import Derived.Test.YtijjelcejpikiaaGreatDoorEvWf
set_option linter.unusedVariables false
set_option linter.unusedSimpArgs false
set_option maxRecDepth 20000
namespace Go.Px
open Go Go.Ev
/-! ### Loops, values -/
theorem loop_inl {S R : Type} {f : S → Option (S ⊕ R)} {s s' : S} (h : f s = some (.inl s')) : loopFix f s = loopFix f s' := loopFix_inl h
theorem bind_some' {A B : Type} {o : Option A} {f : A → Option B} {a : A} (h : o = some a) : Option.bind o f = f a := by rw [h]; rfl
theorem condT' {A : Type} {b : Bool} {x y : A} (h : b = true) : cond b x y = x := by rw [h]; rfl
theorem condF' {A : Type} {b : Bool} {x y : A} (h : b = false) : cond b x y = y := by rw [h]; rfl
def Byt (l : List Int) : Prop := ∀ x ∈ l, 0 ≤ x ∧ x ≤ 255
theorem Byt.nil : Byt [] := fun x h => by simp at h
theorem Byt.cons {x : Int} {l : List Int} (h0 : 0 ≤ x) (h1 : x ≤ 255) (h : Byt l) : Byt (x :: l) := fun y hy => by
  rcases List.mem_cons.1 hy with rfl | hy
  · exact ⟨h0, h1⟩
  · exact h y hy
theorem Byt.append {a b : List Int} (ha : Byt a) (hb : Byt b) : Byt (a ++ b) := fun y hy => (List.mem_append.1 hy).elim (ha y) (hb y)
theorem Byt.take {a : List Int} (ha : Byt a) (n : Nat) : Byt (a.take n) := fun y hy => ha y (List.mem_of_mem_take hy)
theorem Byt.drop {a : List Int} (ha : Byt a) (n : Nat) : Byt (a.drop n) := fun y hy => ha y (List.mem_of_mem_drop hy)
theorem Byt.bytesOf (s : ByteArray) : Byt (bytesOf s) := fun y hy => by
  unfold Go.Ev.bytesOf at hy
  obtain ⟨b, _, rfl⟩ := List.mem_map.1 hy
  have := b.toNat_lt
  omega
theorem Byt.of_wf {l : List Int} (h : ∀ m ∈ l, (Lit.int .u8 m).wf = true) : Byt l := fun x hx => by
  exact wf_u8 (h x hx)
/-! ### Bits -/
theorem ofInt_nat' (n : Nat) : BitVec.ofInt 64 (n : Int) = BitVec.ofNat 64 n := by simp
theorem or_nat' (n m : Nat) (hn : n < 2 ^ 64) (hm : m < 2 ^ 64) : bitsI .or .u64 (n : Int) (m : Int) = ((n ||| m : Nat) : Int) := by
  rw [bitsI_eq]
  show IntKind.u64.wrap (((BitVec.ofInt 64 (n : Int) ||| BitVec.ofInt 64 (m : Int)).toNat : Nat) : Int) = _
  have := Nat.or_lt_two_pow hn hm
  rw [ofInt_nat', ofInt_nat', BitVec.toNat_or, BitVec.toNat_ofNat, BitVec.toNat_ofNat, Nat.mod_eq_of_lt hn, Nat.mod_eq_of_lt hm, wrapU64 (by omega) (by omega)]
/-- Bits that do not meet. -/
theorem or_disj (a b : Nat) (i : Nat) (hb : b < 2 ^ i) (h : a * 2 ^ i + b < 2 ^ 64) : bitsI .or .u64 ((a * 2 ^ i : Nat) : Int) (b : Int) = ((a * 2 ^ i + b : Nat) : Int) := by
  rw [or_nat' _ _ (by omega) (by omega), ← Nat.shiftLeft_eq, Nat.shiftLeft_add_eq_or_of_lt hb]
theorem or_disj' (a b : Nat) (i : Nat) (hb : b < 2 ^ i) (h : a * 2 ^ i + b < 2 ^ 64) : bitsI .or .u64 (b : Int) ((a * 2 ^ i : Nat) : Int) = ((a * 2 ^ i + b : Nat) : Int) := by
  rw [or_nat' _ _ (by omega) (by omega), Nat.or_comm, ← Nat.shiftLeft_eq, Nat.shiftLeft_add_eq_or_of_lt hb]
theorem shl_nat' (x l : Nat) (hl : l ≤ 64) (h : x * 2 ^ l < 2 ^ 64) : shlI .u64 (x : Int) (l : Int) = ((x * 2 ^ l : Nat) : Int) := by
  unfold shlI
  have e : min (Int.toNat (l : Int)) IntKind.u64.bits = l := by show min l 64 = l; omega
  rw [e, show ((x : Int) * 2 ^ l) = ((x * 2 ^ l : Nat) : Int) by simp]
  exact wrapU64 (by omega) (by omega)
theorem shl_mod (x l : Nat) (hl : l ≤ 64) : shlI .u64 (x : Int) (l : Int) = ((x * 2 ^ l % 2 ^ 64 : Nat) : Int) := by
  unfold shlI
  have e : min (Int.toNat (l : Int)) IntKind.u64.bits = l := by show min l 64 = l; omega
  rw [e, show ((x : Int) * 2 ^ l) = ((x * 2 ^ l : Nat) : Int) by simp, IntKind.wrap_u64]
  omega
/-! ### A round -/
def rot (x n m : Int) : Int := bitsI .or .u64 (shlI .u64 x n) (shrI .u64 x m)
abbrev V4 := Int × Int × Int × Int
def rnd (v : V4) : V4 :=
  let v0 := IntKind.u64.wrap (v.1 + v.2.1)
  let v1 := bitsI .xor .u64 (rot v.2.1 13 51) v0
  let v0 := rot v0 32 32
  let v2 := IntKind.u64.wrap (v.2.2.1 + v.2.2.2)
  let v3 := bitsI .xor .u64 (rot v.2.2.2 16 48) v2
  let v0 := IntKind.u64.wrap (v0 + v3)
  let v3 := bitsI .xor .u64 (rot v3 21 43) v0
  let v2 := IntKind.u64.wrap (v2 + v1)
  let v1 := bitsI .xor .u64 (rot v1 17 47) v2
  (v0, v1, rot v2 32 32, v3)
def wordS (m : Int) (v : V4) : V4 :=
  let v := rnd (rnd (v.1, v.2.1, v.2.2.1, bitsI .xor .u64 v.2.2.2 m))
  (bitsI .xor .u64 v.1 m, v.2.1, v.2.2.1, v.2.2.2)
theorem rotc (x : Int) : bits_RotateLeft64 x 13 = some (rot x 13 51) ∧ bits_RotateLeft64 x 32 = some (rot x 32 32) ∧ bits_RotateLeft64 x 16 = some (rot x 16 48) ∧ bits_RotateLeft64 x 21 = some (rot x 21 43) ∧ bits_RotateLeft64 x 17 = some (rot x 17 47) := by
  refine ⟨?_, ?_, ?_, ?_, ?_⟩ <;> kernel_rfl
theorem rotr (x : Int) : ref1_rotl x 13 = some (rot x 13 51) ∧ ref1_rotl x 32 = some (rot x 32 32) ∧ ref1_rotl x 16 = some (rot x 16 48) ∧ ref1_rotl x 21 = some (rot x 21 43) ∧ ref1_rotl x 17 = some (rot x 17 47) := by
  refine ⟨?_, ?_, ?_, ?_, ?_⟩ <;> kernel_rfl
def rounds : Nat → V4 → V4
  | 0, v => v
  | n + 1, v => rounds n (rnd v)
theorem roundc_step (n i : Int) (a b c d : Int) (h : i < n) (h0 : 0 ≤ i) (h1 : n ≤ 100) : digest_state_round_a4e_l1 (((), n, i), (a, b, c, d)) = some (.inl (((), n, i + 1), rnd (a, b, c, d))) := by
  unfold digest_state_round_a4e_l1
  dsimp only
  rw [condT' (by simpa using h), (rotc b).1]
  simp only [Option.bind_some]
  rw [(rotc _).2.1, (rotc _).2.2.1]
  simp only [Option.bind_some]
  rw [(rotc _).2.2.2.1]
  simp only [Option.bind_some]
  rw [(rotc _).2.2.2.2, (rotc _).2.1]
  simp only [Option.bind_some]
  rw [wrap64 (n := i + 1) (by omega) (by omega)]
  rfl
theorem roundc_end (n : Int) (v : V4) : digest_state_round_a4e_l1 (((), n, n), v) = some (.inr ((), v)) := by
  obtain ⟨a, b, c, d⟩ := v
  unfold digest_state_round_a4e_l1
  dsimp only
  rw [condF' (by simp)]
theorem roundc (n a b c d : Int) (k : Nat) (hk : n = (k : Int)) (h1 : n ≤ 100) : digest_state_round_a4e n a b c d = some ((), rounds k (a, b, c, d)) := by
  unfold digest_state_round_a4e
  have key : ∀ (j : Nat) (v : V4), j ≤ k → loopFix digest_state_round_a4e_l1 (((), n, n - (j : Int)), v) = some ((), rounds j v) := by
    intro j
    induction j with
    | zero =>
      intro v _
      rw [show n - ((0 : Nat) : Int) = n by simp]
      exact loopFix_inr (roundc_end n v)
    | succ j ih =>
      intro v hj
      obtain ⟨a, b, c, d⟩ := v
      rw [loopFix_inl (roundc_step n _ a b c d (by omega) (by omega) h1), show n - ((j + 1 : Nat) : Int) + 1 = n - (j : Int) by omega, ih _ (by omega)]
      rfl
  have := key k (a, b, c, d) (Nat.le_refl _)
  rw [show n - (k : Int) = 0 by omega] at this
  rw [this]
  rfl
theorem wordc (m a b c d : Int) : digest_state_word_a4e m a b c d = some ((), wordS m (a, b, c, d)) := by
  unfold digest_state_word_a4e
  rw [roundc 2 _ _ _ _ 2 rfl (by omega)]
  rfl
theorem roundr (a b c d : Int) : ref1_round [a, b, c, d] = some [(rnd (a, b, c, d)).1, (rnd (a, b, c, d)).2.1, (rnd (a, b, c, d)).2.2.1, (rnd (a, b, c, d)).2.2.2] := by
  unfold ref1_round
  simp only [List.getElem?_cons_zero, List.getElem?_cons_succ, List.set_cons_zero, List.set_cons_succ, Option.bind_some]
  rw [(rotr _).1]
  simp only [List.getElem?_cons_zero, List.getElem?_cons_succ, List.set_cons_zero, List.set_cons_succ, Option.bind_some]
  rw [(rotr _).2.1]
  simp only [List.getElem?_cons_zero, List.getElem?_cons_succ, List.set_cons_zero, List.set_cons_succ, Option.bind_some]
  rw [(rotr _).2.2.1]
  simp only [List.getElem?_cons_zero, List.getElem?_cons_succ, List.set_cons_zero, List.set_cons_succ, Option.bind_some]
  rw [(rotr _).2.2.2.1]
  simp only [List.getElem?_cons_zero, List.getElem?_cons_succ, List.set_cons_zero, List.set_cons_succ, Option.bind_some]
  rw [(rotr _).2.2.2.2]
  simp only [List.getElem?_cons_zero, List.getElem?_cons_succ, List.set_cons_zero, List.set_cons_succ, Option.bind_some]
  rw [(rotr _).2.1]
  simp only [List.getElem?_cons_zero, List.getElem?_cons_succ, List.set_cons_zero, List.set_cons_succ, Option.bind_some]
  rfl
/-! ### Words of eight bytes -/
def leN : List Int → Nat
  | [] => 0
  | x :: l => x.toNat + 256 * leN l
theorem leN_lt : ∀ {l : List Int}, Byt l → leN l < 256 ^ l.length
  | [], _ => by simp [leN]
  | x :: l, h => by
    have h1 := leN_lt (l := l) fun y hy => h y (by simp [hy])
    have h2 := h x (by simp)
    rw [List.length_cons, Nat.pow_succ]
    unfold leN
    omega
theorem leN_append : ∀ (a b : List Int), leN (a ++ b) = leN a + 256 ^ a.length * leN b
  | [], b => by simp [leN]
  | x :: a, b => by
    rw [List.cons_append, leN, leN, leN_append a b, List.length_cons, Nat.pow_succ, Nat.mul_add, Nat.add_assoc]
    congr 2
    rw [← Nat.mul_assoc]
    congr 1
    exact Nat.mul_comm _ _
theorem p256 (n : Nat) : 256 ^ n = 2 ^ (8 * n) := by rw [Nat.pow_mul]
theorem getI_at {A : Type} (l : List A) (i : Nat) (h : i < l.length) : getI l (i : Int) = some l[i] := getI_lt l i h
theorem little_loop (b : List Int) (hb : Byt b) (h8 : b.length ≤ 8) : ∀ (j : Nat), j ≤ b.length →
    loopFix digest_little_l3 (((leN (b.take (b.length - j)) : Nat) : Int), b, ((b.length : Nat) : Int), ((b.length - j : Nat) : Int)) = some ((leN b : Nat) : Int) := by
  intro j
  induction j with
  | zero =>
    intro _
    refine loopFix_inr ?_
    unfold digest_little_l3
    dsimp only
    rw [condF' (by simp), Nat.sub_zero, List.take_length]
  | succ j ih =>
    intro hj
    rw [← ih (by omega)]
    obtain ⟨i, hi⟩ : ∃ i, i = b.length - (j + 1) := ⟨_, rfl⟩
    have hi2 : b.length - j = i + 1 := by omega
    rw [← hi, hi2]
    refine loopFix_inl ?_
    have hlt : i < b.length := by omega
    obtain ⟨h0, h1⟩ := hb b[i] (List.getElem_mem hlt)
    unfold digest_little_l3
    dsimp only
    have w8 : IntKind.i64.wrap (8 * (i : Int)) = ((8 * i : Nat) : Int) := by rw [wrap64 (by omega) (by omega)]; omega
    rw [condT' (by simp; omega), getI_at b i hlt, Option.bind_some, w8, condT' (by simp; omega), Option.bind_some, wrap64 (n := (i : Int) + 1) (by omega) (by omega)]
    have hx : IntKind.u64.wrap b[i] = ((b[i].toNat : Nat) : Int) := by rw [wrapU64 (by omega) (by omega)]; omega
    have hpow : 2 ^ (8 * i) * 256 ≤ 2 ^ 64 := by
      have : 2 ^ (8 * i + 8) ≤ 2 ^ 64 := Nat.pow_le_pow_right (by omega) (by omega)
      rwa [Nat.pow_add] at this
    have hbt : leN (b.take i) < 2 ^ (8 * i) := by
      have := leN_lt (hb.take i)
      rwa [p256, List.length_take, Nat.min_eq_left (by omega)] at this
    have hxl : b[i].toNat < 256 := by omega
    have hmul : b[i].toNat * 2 ^ (8 * i) + 2 ^ (8 * i) ≤ 2 ^ 64 := by
      have := Nat.mul_le_mul_right (2 ^ (8 * i)) (show b[i].toNat + 1 ≤ 256 by omega)
      rw [Nat.add_mul, Nat.one_mul] at this
      omega
    have htake : leN (b.take (i + 1)) = b[i].toNat * 2 ^ (8 * i) + leN (b.take i) := by
      rw [List.take_add_one, List.getElem?_eq_getElem hlt, Option.toList, leN_append, List.length_take, Nat.min_eq_left (by omega), p256]
      simp [leN]
      rw [Nat.mul_comm]
      omega
    rw [hx, shl_nat' _ _ (by omega) (by omega), or_disj' _ _ _ hbt (by omega), htake]
    congr 4
theorem littlec (b : List Int) (hb : Byt b) (h8 : b.length ≤ 8) : digest_little b = some ((leN b : Nat) : Int) := by
  unfold digest_little
  have := little_loop b hb h8 b.length (Nat.le_refl _)
  rw [Nat.sub_self] at this
  simp only [List.take_zero, leN] at this
  rw [show ((0 : Nat) : Int) = 0 from rfl] at this
  rw [this]
  rfl
/-! ### The whole message -/
/-- The last word: what is left, and the length. -/
def lastW (b : List Int) (n : Nat) : Nat := (n % 256) * 2 ^ 56 + leN b
def sipGo (n : Nat) : Nat → List Int → V4 → V4
  | 0, _, v => v
  | k + 1, b, v => if 8 ≤ b.length then sipGo n k (b.drop 8) (wordS ((leN (b.take 8) : Nat) : Int) v) else wordS ((lastW b n : Nat) : Int) v
def iv (k0 k1 : Int) : V4 := (bitsI .xor .u64 k0 8317987319222330741, bitsI .xor .u64 k1 7237128888997146477, bitsI .xor .u64 k0 7816392313619706465, bitsI .xor .u64 k1 8387220255154660723)
def fin4 (v : V4) : Int :=
  let v := rounds 4 (v.1, v.2.1, bitsI .xor .u64 v.2.2.1 255, v.2.2.2)
  bitsI .xor .u64 (bitsI .xor .u64 (bitsI .xor .u64 v.1 v.2.1) v.2.2.1) v.2.2.2
/-- SipHash-2-4 of bytes. -/
def sip (k0 k1 : Int) (b : List Int) : Int := fin4 (sipGo b.length (b.length / 8 + 1) b (iv k0 k1))
theorem cut_take (b : List Int) (n : Nat) : cut b 0 (n : Int) = b.take n := by unfold cut; simp
theorem cut_drop (b : List Int) (n : Nat) : cut b (n : Int) ((b.length : Nat) : Int) = b.drop n := by unfold cut; simp
theorem sumc_loop (last : Int) : ∀ (k : Nat) (b : List Int) (v : V4), Byt b → b.length / 8 = k → b.length ≤ maxLen →
    ∃ r v', loopFix digest_Sum_l3 ((b, (), last), v) = some ((r, (), last), v') ∧ Byt r ∧ r.length < 8 ∧ ∀ n, sipGo n (k + 1) b v = wordS ((lastW r n : Nat) : Int) v' := by
  intro k
  induction k with
  | zero =>
    intro b v hb hk hm
    have h8 : b.length < 8 := by omega
    refine ⟨b, v, loopFix_inr ?_, hb, h8, fun n => ?_⟩
    · obtain ⟨a1, a2, a3, a4⟩ := v
      unfold digest_Sum_l3
      dsimp only
      rw [condF' (by simp; omega)]
    · rw [sipGo, if_neg (by omega)]
  | succ k ih =>
    intro b v hb hk hm
    have h8 : 8 ≤ b.length := by omega
    obtain ⟨r, v', h1, h2, h3, h4⟩ := ih (b.drop 8) (wordS ((leN (b.take 8) : Nat) : Int) v) (hb.drop 8) (by rw [List.length_drop]; omega) (by rw [List.length_drop]; omega)
    refine ⟨r, v', ?_, h2, h3, fun n => ?_⟩
    · rw [← h1]
      refine loopFix_inl ?_
      obtain ⟨a1, a2, a3, a4⟩ := v
      unfold digest_Sum_l3
      dsimp only
      have c1 : cut b 0 8 = b.take 8 := cut_take b 8
      have c2 : cut b 8 ((b.length : Nat) : Int) = b.drop 8 := cut_drop b 8
      have o1 : okBounds 0 8 b.length = true := okBounds_true (by omega) (by omega) (by omega)
      have o2 : okBounds 8 ((b.length : Nat) : Int) b.length = true := okBounds_true (by omega) (by omega) (by omega)
      have d1 : decide (8 ≤ ((b.length : Nat) : Int)) = true := by simp; omega
      have d2 : decide (((b.length : Nat) : Int) ≤ ((b.length : Nat) : Int)) = true := by simp
      have d3 : decide (((b.length : Nat) : Int) ≥ 8) = true := by simp; omega
      rw [d3, o1, o2, d2, c1, c2, littlec _ (hb.take 8) (by rw [List.length_take]; omega)]
      simp only [cond_true, Bool.and_self, Option.bind_some]
      rw [wordc]
      rfl
    · rw [sipGo, if_pos h8, h4 n]
theorem sumc (k0 k1 : Int) (b : List Int) (hb : Byt b) (hm : b.length ≤ maxLen) : digest_Sum k0 k1 b = some (sip k0 k1 b) := by
  unfold digest_Sum
  have hm' := Nat.le_trans hm maxLen_le
  obtain ⟨r, v', h1, h2, h3, h4⟩ := sumc_loop (shlI .u64 (IntKind.u64.wrap ((b.length : Nat) : Int)) 56) (b.length / 8) b (iv k0 k1) hb rfl hm
  have h1' := h1
  unfold iv at h1'
  rw [Option.bind_some, h1', Option.bind_some]
  dsimp only
  have hlast : shlI .u64 (IntKind.u64.wrap ((b.length : Nat) : Int)) 56 = ((b.length % 256 * 2 ^ 56 : Nat) : Int) := by
    rw [wrapU64 (by omega) (by omega), show (56 : Int) = ((56 : Nat) : Int) from rfl, shl_mod _ _ (by omega)]
    omega
  have hr : leN r < 2 ^ 56 := by
    have := leN_lt h2
    rw [p256] at this
    exact Nat.lt_of_lt_of_le this (Nat.pow_le_pow_right (by omega) (by omega))
  have hL : ((b.length % 256 * 2 ^ 56 + leN r : Nat) : Int) = ((lastW r b.length : Nat) : Int) := rfl
  rw [littlec r h2 (by omega), Option.bind_some, hlast, or_disj _ _ _ hr (by omega), hL, wordc, Option.bind_some]
  unfold sip
  rw [h4]
  generalize wordS ((lastW r b.length : Nat) : Int) v' = z
  obtain ⟨z1, z2, z3, z4⟩ := z
  rw [roundc 4 _ _ _ _ 4 rfl (by omega), Option.bind_some]
  unfold fin4
  generalize rounds 4 _ = y
  obtain ⟨y1, y2, y3, y4⟩ := y
  rfl
/-! ### The reference -/
def vl (v : V4) : List Int := [v.1, v.2.1, v.2.2.1, v.2.2.2]
theorem rndr (v : V4) : ref1_round (vl v) = some (vl (rnd v)) := by
  obtain ⟨a, b, c, d⟩ := v
  exact roundr a b c d
/-- Byte k of the block at i. -/
def cAt (b : List Int) (i k : Nat) : Int := if h : i + k < b.length then b[i + k] else if k = 7 then ((b.length % 256 : Nat) : Int) else 0
def blk (b : List Int) (i : Nat) : List Int := (List.range 8).map (cAt b i)
theorem cAt_byt {b : List Int} (hb : Byt b) (i k : Nat) : 0 ≤ cAt b i k ∧ cAt b i k ≤ 255 := by
  unfold cAt
  split
  · exact hb _ (List.getElem_mem _)
  · split
    · omega
    · omega
theorem blk_byt {b : List Int} (hb : Byt b) (i : Nat) : Byt (blk b i) := fun x hx => by
  obtain ⟨k, _, rfl⟩ := List.mem_map.1 hx
  exact cAt_byt hb i k
theorem j14_val (b : List Int) (i m c k : Int) (v : List Int) (mn cn : Nat) (hm : m = (mn : Int)) (hc : c = (cn : Int)) (h1 : cn < 256) (h2 : mn * 2 ^ 8 + cn < 2 ^ 64) :
    ref1_Sum_j14 ((b, (), i, m, k, c), v) = some ((b, (), i, ((mn * 2 ^ 8 + cn : Nat) : Int), k), v) := by
  subst hm hc
  unfold ref1_Sum_j14
  dsimp only
  have e : shlI .u64 (mn : Int) 8 = ((mn * 2 ^ 8 : Nat) : Int) := shl_nat' mn 8 (by omega) (by omega)
  rw [e, wrapU64 (by omega) (by omega), or_disj _ _ _ (by omega) h2]
  rfl
theorem horner (b : List Int) (hb : Byt b) (hl : b.length ≤ 281474976710656) (i : Nat) (hi : i ≤ b.length) (v : List Int) : ∀ k : Nat, k ≤ 8 →
    loopFix ref1_Sum_l7 ((b, (), (i : Int), ((leN ((blk b i).drop k) : Nat) : Int), (k : Int) - 1), v) = some ((b, (), (i : Int), ((leN (blk b i) : Nat) : Int)), v) := by
  intro k
  induction k with
  | zero =>
    intro _
    refine loopFix_inr ?_
    unfold ref1_Sum_l7
    dsimp only
    rw [condF' (by simp)]
    rfl
  | succ k ih =>
    intro hk
    rw [← ih (by omega)]
    refine loopFix_inl ?_
    have hlen : (blk b i).length = 8 := by simp [blk]
    have hkl : k < (blk b i).length := by omega
    have hget : (blk b i)[k] = cAt b i k := by simp [blk]
    obtain ⟨c0, c1⟩ := cAt_byt hb i k
    have hdrop : leN ((blk b i).drop k) = leN ((blk b i).drop (k + 1)) * 2 ^ 8 + (cAt b i k).toNat := by
      rw [List.drop_eq_getElem_cons hkl, hget, leN]
      omega
    have hlt : leN ((blk b i).drop k) < 2 ^ 64 := by
      have := leN_lt ((blk_byt hb i).drop k)
      rw [p256] at this
      exact Nat.lt_of_lt_of_le this (Nat.pow_le_pow_right (by omega) (by rw [List.length_drop]; omega))
    have step : ∀ c : Int, c = ((cAt b i k).toNat : Int) → ref1_Sum_j14 ((b, (), (i : Int), ((leN ((blk b i).drop (k + 1)) : Nat) : Int), (((k + 1 : Nat) : Int) - 1), c), v) = some ((b, (), (i : Int), ((leN ((blk b i).drop k) : Nat) : Int), (((k + 1 : Nat) : Int) - 1)), v) := fun c hc => by
      rw [hdrop]
      exact j14_val b i _ c _ v _ _ rfl hc (by omega) (by omega)
    have hw : IntKind.i64.wrap (((k + 1 : Nat) : Int) - 1 - 1) = (k : Int) - 1 := by rw [wrap64 (by omega) (by omega)]; omega
    unfold ref1_Sum_l7
    dsimp only
    have hik : IntKind.i64.wrap ((i : Int) + (((k + 1 : Nat) : Int) - 1)) = ((i + k : Nat) : Int) := by rw [wrap64 (by omega) (by omega)]; omega
    rw [condT' (by simp), hik]
    by_cases h : i + k < b.length
    · rw [condT' (by simp; omega), getI_at b (i + k) h, Option.bind_some, step b[i + k] (by unfold cAt at *; rw [dif_pos h] at *; omega), Option.bind_some]
      dsimp only
      rw [hw]
    · rw [condF' (by simp; omega)]
      by_cases h7 : k = 7
      · subst h7
        rw [condT' (by rfl), Option.bind_some, step _ (by
          unfold cAt
          rw [dif_neg h, if_pos rfl]
          show IntKind.u8.wrap _ = _
          have : IntKind.u8.wrap ((b.length : Nat) : Int) = ((b.length : Nat) : Int) % 256 := by simp [IntKind.wrap, IntKind.bits, IntKind.signed]
          rw [this]
          omega), Option.bind_some]
        dsimp only
        rw [hw]
      · rw [condF' (by simp; omega), step _ (by
          unfold cAt
          rw [dif_neg h, if_neg h7]
          rfl), Option.bind_some]
        dsimp only
        rw [hw]
theorem leN_zeros : ∀ (n : Nat) (l : List Int), leN (List.replicate n 0 ++ l) = 256 ^ n * leN l
  | 0, l => by simp
  | n + 1, l => by
    rw [List.replicate_succ, List.cons_append, leN, leN_zeros n l, Nat.pow_succ, Nat.mul_comm (256 ^ n) 256, Nat.mul_assoc]
    simp
theorem blk_full (b : List Int) (i : Nat) (h : i + 8 ≤ b.length) : blk b i = (b.drop i).take 8 := by
  apply List.ext_getElem
  · simp [blk]; omega
  · intro k h1 h2
    have hk : k < 8 := by simpa [blk] using h1
    simp only [blk, List.getElem_map, List.getElem_range, List.getElem_take, List.getElem_drop]
    unfold cAt
    rw [dif_pos (by omega)]
theorem blk_last (b : List Int) (i : Nat) (hi : i ≤ b.length) (h : b.length < i + 8) : leN (blk b i) = lastW (b.drop i) b.length := by
  have e : blk b i = b.drop i ++ (List.replicate (7 - (b.length - i)) 0 ++ [((b.length % 256 : Nat) : Int)]) := by
    apply List.ext_getElem
    · simp [blk]; omega
    · intro k h1 h2
      have hk : k < 8 := by simpa [blk] using h1
      simp only [blk, List.getElem_map, List.getElem_range]
      unfold cAt
      by_cases h3 : i + k < b.length
      · rw [dif_pos h3, List.getElem_append_left (by simp; omega), List.getElem_drop]
      · rw [dif_neg h3, List.getElem_append_right (by simp; omega)]
        by_cases h7 : k = 7
        · rw [if_pos h7, List.getElem_append_right (by simp; omega)]
          simp
        · rw [if_neg h7, List.getElem_append_left (by simp; omega)]
          simp
  rw [e, leN_append, leN_zeros]
  unfold lastW
  simp only [leN, List.length_drop]
  rw [← Nat.mul_assoc, ← Nat.pow_add, show b.length - i + (7 - (b.length - i)) = 7 by omega]
  omega
theorem sumr_loop (b : List Int) (hb : Byt b) (hl : b.length ≤ 281474976710656) : ∀ (k i : Nat) (v : V4), i ≤ b.length → (b.length - i) / 8 = k →
    loopFix ref1_Sum_l3 ((b, (), (i : Int)), vl v) = some ((), vl (sipGo b.length (k + 1) (b.drop i) v)) := by
  have step : ∀ (i : Nat) (v : V4), i ≤ b.length → ref1_Sum_l3 ((b, (), (i : Int)), vl v) = some (.inl ((b, (), ((i + 8 : Nat) : Int)), vl (wordS ((leN (blk b i) : Nat) : Int) v))) := by
    intro i v hi
    unfold ref1_Sum_l3
    dsimp only
    have h8 := horner b hb hl i hi (vl v) 8 (by omega)
    have e0 : (blk b i).drop 8 = [] := List.drop_eq_nil_of_le (by simp [blk])
    rw [e0] at h8
    simp only [leN] at h8
    have h8' : loopFix ref1_Sum_l7 ((b, (), (i : Int), 0, 7), vl v) = some ((b, (), (i : Int), ((leN (blk b i) : Nat) : Int)), vl v) := h8
    rw [condT' (by simp; omega), h8', Option.bind_some]
    obtain ⟨a1, a2, a3, a4⟩ := v
    simp only [vl, List.getElem?_cons_zero, List.getElem?_cons_succ, List.set_cons_zero, List.set_cons_succ, Option.bind_some]
    rw [roundr, Option.bind_some, roundr, Option.bind_some]
    simp only [List.getElem?_cons_zero, List.set_cons_zero, Option.bind_some]
    rw [wrap64 (by omega) (by omega)]
    rfl
  intro k
  induction k with
  | zero =>
    intro i v hi hk
    rw [loopFix_inl (step i v hi), sipGo, if_neg (by rw [List.length_drop]; omega), blk_last b i hi (by omega)]
    refine loopFix_inr ?_
    unfold ref1_Sum_l3
    dsimp only
    rw [condF' (by simp; omega)]
  | succ k ih =>
    intro i v hi hk
    have e : sipGo b.length (k + 1 + 1) (b.drop i) v = sipGo b.length (k + 1) ((b.drop i).drop 8) (wordS ((leN ((b.drop i).take 8) : Nat) : Int) v) := by
      rw [sipGo, if_pos (by rw [List.length_drop]; omega)]
    rw [loopFix_inl (step i v hi), ih (i + 8) _ (by omega) (by omega), e, List.drop_drop, blk_full b i (by omega)]
theorem sumr (k0 k1 : Int) (b : List Int) (hb : Byt b) (hl : b.length ≤ 281474976710656) : ref1_Sum k0 k1 b = some (sip k0 k1 b) := by
  unfold ref1_Sum
  have h := sumr_loop b hb hl (b.length / 8) 0 (iv k0 k1) (by omega) rfl
  have h' : loopFix ref1_Sum_l3 ((b, (), 0), [bitsI .xor .u64 k0 8317987319222330741, bitsI .xor .u64 k1 7237128888997146477, bitsI .xor .u64 k0 7816392313619706465, bitsI .xor .u64 k1 8387220255154660723]) = some ((), vl (sipGo b.length (b.length / 8 + 1) b (iv k0 k1))) := h
  rw [h', Option.bind_some]
  unfold sip
  generalize sipGo b.length (b.length / 8 + 1) b (iv k0 k1) = v
  obtain ⟨a1, a2, a3, a4⟩ := v
  simp only [vl, List.getElem?_cons_zero, List.getElem?_cons_succ, List.set_cons_zero, List.set_cons_succ, Option.bind_some]
  rw [roundr, Option.bind_some, roundr, Option.bind_some, roundr, Option.bind_some, roundr, Option.bind_some]
  simp only [List.getElem?_cons_zero, List.getElem?_cons_succ, Option.bind_some]
  rfl
/-- The authentication code. -/
def mac (k d : Int) (b : List Int) : Int := sip k (IntKind.u64.wrap (1 + IntKind.u64.wrap d)) b
theorem macc (k d : Int) (b : List Int) (hb : Byt b) (hm : b.length ≤ maxLen) : digest_Mac k d b = some (mac k d b) := by
  unfold digest_Mac
  rw [Option.bind_some, sumc _ _ _ hb hm]
  rfl
theorem macr (k d : Int) (b : List Int) (hb : Byt b) (hl : b.length ≤ 281474976710656) : ref1_Mac k d b = some (mac k d b) := by
  unfold ref1_Mac
  rw [Option.bind_some, sumr _ _ _ hb hl]
  rfl
/-! ### Words as bytes -/
/-- A word's bytes, the most significant one first. -/
def wb (w : Int) : List Int := [56, 48, 40, 32, 24, 16, 8, 0].map fun n : Int => IntKind.u8.wrap (shrI .u64 w n)
def wbs (l : List Int) : List Int := l.flatMap wb
theorem wb_len (w : Int) : (wb w).length = 8 := rfl
theorem wbs_len (l : List Int) : (wbs l).length = 8 * l.length := by
  induction l with
  | nil => rfl
  | cons w l ih => rw [wbs, List.flatMap_cons, List.length_append, wb_len, List.length_cons]; unfold wbs at ih; omega
theorem wb_byt (w : Int) : Byt (wb w) := fun x hx => by
  obtain ⟨n, _, rfl⟩ := List.mem_map.1 hx
  have : ∀ z, IntKind.u8.wrap z = z % 256 := fun z => by simp [IntKind.wrap, IntKind.bits, IntKind.signed]
  rw [this]
  omega
theorem wbs_byt (l : List Int) : Byt (wbs l) := fun x hx => by
  obtain ⟨w, _, hx⟩ := List.mem_flatMap.1 hx
  exact wb_byt w x hx
theorem wordsc_in (w : Int) (l : List Int) (n i : Int) : ∀ (j : Nat), j ≤ 8 → ∀ (acc : List Int), acc.length + j ≤ 1000000 →
    loopFix digest_Words_l6 (((), w, l, n, i, ((8 - j : Nat) : Int)), acc) = some (((), l, n, i), acc ++ (wb w).drop (8 - j)) := by
  intro j
  induction j with
  | zero =>
    intro _ acc _
    refine loopFix_inr ?_
    unfold digest_Words_l6
    dsimp only
    rw [condF' (by simp)]
    rw [Nat.sub_zero, show (wb w).drop 8 = [] from rfl, List.append_nil]
  | succ j ih =>
    intro hj acc ha
    obtain ⟨q, hq⟩ : ∃ q, q = 8 - (j + 1) := ⟨_, rfl⟩
    have hq2 : 8 - j = q + 1 := by omega
    rw [hq2] at ih
    rw [← hq]
    have hlt : q < 8 := by omega
    have hget : (wb w).drop q = IntKind.u8.wrap (shrI .u64 w (56 - 8 * (q : Int))) :: (wb w).drop (q + 1) := by
      have : q = 0 ∨ q = 1 ∨ q = 2 ∨ q = 3 ∨ q = 4 ∨ q = 5 ∨ q = 6 ∨ q = 7 := by omega
      rcases this with rfl | rfl | rfl | rfl | rfl | rfl | rfl | rfl <;> rfl
    have hs : digest_Words_l6 (((), w, l, n, i, (q : Int)), acc) = some (.inl (((), w, l, n, i, ((q + 1 : Nat) : Int)), acc ++ [IntKind.u8.wrap (shrI .u64 w (56 - 8 * (q : Int)))])) := by
      unfold digest_Words_l6
      dsimp only
      rw [condT' (by simp; omega), wrap64 (n := 8 * (q : Int)) (by omega) (by omega), wrap64 (n := 56 - 8 * (q : Int)) (by omega) (by omega), Option.bind_some, condT' (by simp; omega), condT' (by simp; omega), Option.bind_some, wrap64 (by omega) (by omega)]
      rfl
    rw [loopFix_inl hs, ih (by omega) _ (by simp; omega), hget, List.append_assoc]
    rfl
theorem wordsc (l : List Int) (hl : l.length ≤ 1000) : digest_Words l = some ((), wbs l) := by
  unfold digest_Words
  have key : ∀ (j : Nat), j ≤ l.length → ∀ acc : List Int, acc.length = 8 * (l.length - j) → loopFix digest_Words_l3 (((), l, ((l.length : Nat) : Int), ((l.length - j : Nat) : Int)), acc) = some ((), acc ++ wbs (l.drop (l.length - j))) := by
    intro j
    induction j with
    | zero =>
      intro _ acc _
      refine loopFix_inr ?_
      unfold digest_Words_l3
      dsimp only
      rw [condF' (by simp), Nat.sub_zero, List.drop_length]
      simp [wbs]
    | succ j ih =>
      intro hj acc ha
      obtain ⟨q, hq⟩ : ∃ q, q = l.length - (j + 1) := ⟨_, rfl⟩
      have hq2 : l.length - j = q + 1 := by omega
      rw [hq2] at ih
      rw [← hq] at ha ⊢
      have hlt : q < l.length := by omega
      have hin := wordsc_in l[q] l ((l.length : Nat) : Int) (q : Int) 8 (by omega) acc (by omega)
      rw [Nat.sub_self, List.drop_zero] at hin
      have hs : digest_Words_l3 (((), l, ((l.length : Nat) : Int), (q : Int)), acc) = some (.inl (((), l, ((l.length : Nat) : Int), ((q + 1 : Nat) : Int)), acc ++ wb l[q])) := by
        unfold digest_Words_l3
        dsimp only
        rw [condT' (by simp; omega), getI_at l q hlt, Option.bind_some]
        have hin' : loopFix digest_Words_l6 (((), l[q], l, ((l.length : Nat) : Int), (q : Int), 0), acc) = _ := hin
        rw [hin', Option.bind_some]
        dsimp only
        rw [wrap64 (by omega) (by omega)]
        rfl
      rw [loopFix_inl hs, ih (by omega) _ (by rw [List.length_append, wb_len]; omega), List.append_assoc, List.drop_eq_getElem_cons hlt]
      rfl
  have := key l.length (Nat.le_refl _) [] (by simp)
  rw [Nat.sub_self, List.drop_zero, List.nil_append] at this
  rw [show ((0 : Nat) : Int) = 0 from rfl] at this
  rw [this]
  rfl
theorem wordsr_in (l : List Int) (w : Int) (i : Nat) (hi : l[i]? = some w) : ∀ (j : Nat), j ≤ 8 → ∀ (acc : List Int), acc.length + j ≤ 1000000 →
    loopFix ref1_Words_l6 ((l, (), (i : Int), (j : Int) - 1), acc) = some ((l, (), (i : Int)), acc ++ (wb w).drop (8 - j)) := by
  obtain ⟨hlt, hget⟩ := List.getElem?_eq_some_iff.1 hi
  intro j
  induction j with
  | zero =>
    intro _ acc _
    refine loopFix_inr ?_
    unfold ref1_Words_l6
    dsimp only
    rw [condF' (by simp), Nat.sub_zero, show (wb w).drop 8 = [] from rfl, List.append_nil]
  | succ j ih =>
    intro hj acc ha
    have hdrop : (wb w).drop (8 - (j + 1)) = IntKind.u8.wrap (shrI .u64 w (8 * (j : Int))) :: (wb w).drop (8 - j) := by
      have : j = 0 ∨ j = 1 ∨ j = 2 ∨ j = 3 ∨ j = 4 ∨ j = 5 ∨ j = 6 ∨ j = 7 := by omega
      rcases this with rfl | rfl | rfl | rfl | rfl | rfl | rfl | rfl <;> rfl
    have hs : ref1_Words_l6 ((l, (), (i : Int), ((j + 1 : Nat) : Int) - 1), acc) = some (.inl ((l, (), (i : Int), (j : Int) - 1), acc ++ [IntKind.u8.wrap (shrI .u64 w (8 * (j : Int)))])) := by
      unfold ref1_Words_l6
      dsimp only
      have ej : ((j + 1 : Nat) : Int) - 1 = (j : Int) := by omega
      rw [ej, condT' (by simp), getI_at l i hlt, Option.bind_some, hget, wrap64 (n := 8 * (j : Int)) (by omega) (by omega), wrapU64 (n := 8 * (j : Int)) (by omega) (by omega), Option.bind_some, condT' (by simp; omega), condT' (by simp; omega), Option.bind_some, wrap64 (by omega) (by omega)]
    rw [loopFix_inl hs, ih (by omega) _ (by simp; omega), hdrop, List.append_assoc]
    rfl
theorem wordsr (l : List Int) (hl : l.length ≤ 1000) : ref1_Words l = some ((), wbs l) := by
  unfold ref1_Words
  have key : ∀ (j : Nat), j ≤ l.length → ∀ acc : List Int, acc.length = 8 * (l.length - j) → loopFix ref1_Words_l3 ((l, (), ((l.length - j : Nat) : Int)), acc) = some ((), acc ++ wbs (l.drop (l.length - j))) := by
    intro j
    induction j with
    | zero =>
      intro _ acc _
      refine loopFix_inr ?_
      unfold ref1_Words_l3
      dsimp only
      rw [condF' (by simp), Nat.sub_zero, List.drop_length]
      simp [wbs]
    | succ j ih =>
      intro hj acc ha
      obtain ⟨q, hq⟩ : ∃ q, q = l.length - (j + 1) := ⟨_, rfl⟩
      have hq2 : l.length - j = q + 1 := by omega
      rw [hq2] at ih
      rw [← hq] at ha ⊢
      have hlt : q < l.length := by omega
      have hin := wordsr_in l l[q] q (by simp [hlt]) 8 (by omega) acc (by omega)
      rw [Nat.sub_self, List.drop_zero] at hin
      have hs : ref1_Words_l3 ((l, (), (q : Int)), acc) = some (.inl ((l, (), ((q + 1 : Nat) : Int)), acc ++ wb l[q])) := by
        unfold ref1_Words_l3
        dsimp only
        have hin' : loopFix ref1_Words_l6 ((l, (), (q : Int), 7), acc) = _ := hin
        rw [condT' (by simp; omega), hin', Option.bind_some]
        dsimp only
        rw [wrap64 (by omega) (by omega)]
        rfl
      rw [loopFix_inl hs, ih (by omega) _ (by rw [List.length_append, wb_len]; omega), List.append_assoc, List.drop_eq_getElem_cons hlt]
      rfl
  have := key l.length (Nat.le_refl _) [] (by simp)
  rw [Nat.sub_self, List.drop_zero, List.nil_append] at this
  rw [show ((0 : Nat) : Int) = 0 from rfl] at this
  rw [this]
  rfl
end Go.Px
