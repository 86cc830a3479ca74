/-
Credentials: when one is valid; the law's own credentials.
-/
import Derived.Test.YtijjelcejpikiaaGreatDoorEvLdig
set_option linter.unusedVariables false
set_option linter.unusedSimpArgs false
set_option maxRecDepth 20000
namespace Go.Px
open Go Go.Ev
/-- A credential. -/
structure Cred where
  rp : ByteArray
  user : ByteArray
  name : ByteArray
  seed : Int
  height : Int
  res : Bool
  prot : Int
  sh : Bool
  ba : Bool
abbrev CT9 := ByteArray × ByteArray × ByteArray × Int × Int × Bool × Int × Bool × Bool
def Cred.t (c : Cred) : CT9 := (c.rp, c.user, c.name, c.seed, c.height, c.res, c.prot, c.sh, c.ba)
def validU (s : ByteArray) : Bool := Lib.validD s.data.toList
/-- The error of a credential. -/
def vcode (c : Cred) : Int :=
  if c.rp.size < 1 ∨ 64 < c.rp.size ∨ c.user.size < 1 ∨ 16 < c.user.size ∨ 32 < c.name.size ∨ c.height < 1 ∨ 4 < c.height ∨ c.prot < 1 ∨ 3 < c.prot then 9
  else if validU c.rp = false ∨ validU c.name = false then 6
  else if (c.sh = true ∧ c.res = false) ∨ (c.ba = true ∧ c.sh = false) then 18 else 0
theorem validStr (s : ByteArray) (h : s.size ≤ 100) : utf8_ValidString s = some (validU s) := by
  unfold utf8_ValidString
  rw [condT' (by simp; omega)]
  rfl
theorem valc (c : Cred) : credential_Validate c.rp c.user c.name c.seed c.height c.res c.prot c.sh c.ba = some (vcode c) := by
  obtain ⟨rp, user, name, seed, height, res, prot, sh, ba⟩ := c
  unfold credential_Validate vcode
  dsimp only
  by_cases h1 : rp.size < 1
  · rw [condT' (by simp; omega), if_pos (by omega)]
  by_cases h2 : 64 < rp.size
  · rw [condF' (by simp; omega), condT' (by simp; omega), if_pos (by omega)]
  by_cases h3 : user.size < 1
  · rw [condF' (by simp; omega), condF' (by simp; omega), condT' (by simp; omega), if_pos (by omega)]
  by_cases h4 : 16 < user.size
  · rw [condF' (by simp; omega), condF' (by simp; omega), condF' (by simp; omega), condT' (by simp; omega), if_pos (by omega)]
  by_cases h5 : 32 < name.size
  · rw [condF' (by simp; omega), condF' (by simp; omega), condF' (by simp; omega), condF' (by simp; omega), condT' (by simp; omega), if_pos (by omega)]
  rw [condF' (by simp; omega), condF' (by simp; omega), condF' (by simp; omega), condF' (by simp; omega), condF' (by simp; omega)]
  unfold credential_Validate_j3
  dsimp only
  by_cases h6 : height < 1
  · rw [condT' (by simpa using h6), if_pos (by omega)]; rfl
  by_cases h7 : 4 < height
  · rw [condF' (by simpa using h6), condT' (by simpa using h7), if_pos (by omega)]; rfl
  by_cases h8 : prot < 1
  · rw [condF' (by simpa using h6), condF' (by simpa using h7), condT' (by simpa using h8), if_pos (by omega)]; rfl
  by_cases h9 : 3 < prot
  · rw [condF' (by simpa using h6), condF' (by simpa using h7), condF' (by simpa using h8), condT' (by simpa using h9), if_pos (by omega)]; rfl
  rw [condF' (by simpa using h6), condF' (by simpa using h7), condF' (by simpa using h8), condF' (by simpa using h9), if_neg (by omega)]
  unfold credential_Validate_j5
  dsimp only
  rw [validStr rp (by omega), validStr name (by omega), Option.bind_some]
  cases validU rp <;> cases validU name <;> cases sh <;> cases res <;> cases ba <;> rfl
theorem within_val (a l h : Int) : ref14_within a l h = some (decide (l ≤ a ∧ a ≤ h)) := by
  unfold ref14_within
  by_cases h1 : l ≤ a
  · rw [condT' (by simpa using h1)]; simp [h1]
  · rw [condF' (by simpa using h1)]; simp [h1]
theorem valr (c : Cred) : ref14_ValidateCredential c.rp c.user c.name c.seed c.height c.res c.prot c.sh c.ba = some (vcode c) := by
  obtain ⟨rp, user, name, seed, height, res, prot, sh, ba⟩ := c
  unfold ref14_ValidateCredential vcode
  simp only [within_val, Option.bind_some]
  by_cases h1 : rp.size < 1 ∨ 64 < rp.size
  · rw [condT' (by simp; omega), if_pos (by omega)]
  by_cases h3 : user.size < 1 ∨ 16 < user.size
  · rw [condF' (by simp; omega), condT' (by simp; omega), if_pos (by omega)]
  by_cases h5 : 32 < name.size
  · rw [condF' (by simp; omega), condF' (by simp; omega), condT' (by simp; omega), if_pos (by omega)]
  by_cases h6 : height < 1 ∨ 4 < height
  · rw [condF' (by simp; omega), condF' (by simp; omega), condF' (by simp; omega), condT' (by simp; omega), if_pos (by omega)]
  by_cases h8 : prot < 1 ∨ 3 < prot
  · rw [condF' (by simp; omega), condF' (by simp; omega), condF' (by simp; omega), condF' (by simp; omega), condT' (by simp; omega), if_pos (by omega)]
  rw [condF' (by simp; omega), condF' (by simp; omega), condF' (by simp; omega), condF' (by simp; omega), condF' (by simp; omega), if_neg (by omega)]
  unfold ref14_ValidateCredential_j3 ref14_ValidateCredential_j5
  dsimp only
  rw [validStr rp (by omega), validStr name (by omega), Option.bind_some]
  cases validU rp <;> cases validU name <;> cases sh <;> cases res <;> cases ba <;> rfl
/-! ### The law's own credentials -/
theorem and_mask (x : Int) (m : Nat) (hm : m < 2 ^ 63) : 0 ≤ bitsI .and .i64 x (m : Int) ∧ bitsI .and .i64 x (m : Int) ≤ (m : Int) := by
  rw [bitsI_eq]
  show 0 ≤ IntKind.i64.wrap (((BitVec.ofInt 64 x &&& BitVec.ofInt 64 (m : Int)).toNat : Nat) : Int) ∧ IntKind.i64.wrap (((BitVec.ofInt 64 x &&& BitVec.ofInt 64 (m : Int)).toNat : Nat) : Int) ≤ (m : Int)
  rw [ofInt_nat', BitVec.toNat_and, BitVec.toNat_ofNat, Nat.mod_eq_of_lt (by omega)]
  have := Nat.and_le_right (n := (BitVec.ofInt 64 x).toNat) (m := m)
  rw [wrap64 (by omega) (by omega)]
  omega
theorem and_nat (x : Int) (m : Nat) (hm : m < 2 ^ 63) : ∃ n : Nat, n ≤ m ∧ bitsI .and .i64 x (m : Int) = (n : Int) := by
  obtain ⟨h0, h1⟩ := and_mask x m hm
  exact ⟨(bitsI .and .i64 x (m : Int)).toNat, by omega, by omega⟩
theorem shr_nn (a : Int) (n : Int) (h : 0 ≤ a) : 0 ≤ shrI .i64 a n := by
  unfold shrI
  rw [Int.fdiv_eq_ediv_of_nonneg _ (by exact Int.le_of_lt (Int.pow_pos (by omega)))]
  exact Int.ediv_nonneg h (by exact Int.le_of_lt (Int.pow_pos (by omega)))
def rps : List ByteArray := [bs [97, 46, 101, 120, 97, 109, 112, 108, 101], bs [98, 46, 101, 120, 97, 109, 112, 108, 101], bs [115, 104, 111, 112, 46, 116, 101, 115, 116]]
def users : List ByteArray := [bs [117, 49], bs [117, 50], bs [0, 255]]
def texts : List ByteArray := [bs [], bs [97], bs [98], bs [108, 111, 103, 105, 110], bs [107, 101, 121], bs [101, 120, 97, 109, 112, 108, 101, 46, 111, 114, 103], bs [195, 169], bs [48, 49, 50, 51, 52, 53, 54, 55, 56, 57, 48, 49, 50, 51, 52, 53]]
theorem tmod3 (x : Int) (h : 0 ≤ x) : Int.tmod x 3 = 0 ∨ Int.tmod x 3 = 1 ∨ Int.tmod x 3 = 2 := by
  obtain ⟨n, rfl⟩ := Int.eq_ofNat_of_zero_le h
  rw [Int.tmod_eq_emod_of_nonneg (by omega)]
  omega
theorem base_RP_val (a : Int) : ∃ s, base_RP a = some s ∧ s ∈ rps := by
  unfold base_RP
  obtain ⟨h0, h1⟩ := and_mask a 65535 (by decide)
  rcases tmod3 _ h0 with h | h | h
  all_goals
    have h : Int.tmod (bitsI .and .i64 a 65535) 3 = _ := h
    rw [h]
    exact ⟨_, rfl, by simp [rps, users]⟩
theorem base_User_val (a : Int) : ∃ s, base_User a = some s ∧ s ∈ users := by
  unfold base_User
  obtain ⟨h0, h1⟩ := and_mask a 65535 (by decide)
  rcases tmod3 _ h0 with h | h | h
  all_goals
    have h : Int.tmod (bitsI .and .i64 a 65535) 3 = _ := h
    rw [h]
    exact ⟨_, rfl, by simp [rps, users]⟩
theorem rps_ok {s : ByteArray} (h : s ∈ rps) : 1 ≤ s.size ∧ s.size ≤ 64 ∧ validU s = true := by
  simp only [rps, List.mem_cons, List.not_mem_nil, or_false] at h
  rcases h with rfl | rfl | rfl <;> decide +kernel
theorem users_ok {s : ByteArray} (h : s ∈ users) : 1 ≤ s.size ∧ s.size ≤ 16 := by
  simp only [users, List.mem_cons, List.not_mem_nil, or_false] at h
  rcases h with rfl | rfl | rfl <;> decide +kernel
theorem texts_ok {s u : ByteArray} (h : s ∈ texts) (h' : u ∈ texts) : (s ++ u).size ≤ 32 ∧ validU (s ++ u) = true ∧ s.size + u.size ≤ 32 := by
  simp only [texts, List.mem_cons, List.not_mem_nil, or_false] at h h'
  rcases h with rfl | rfl | rfl | rfl | rfl | rfl | rfl | rfl <;> rcases h' with rfl | rfl | rfl | rfl | rfl | rfl | rfl | rfl <;> decide +kernel
theorem base_Text_val (a : Int) : ∃ s, base_Text a = some s ∧ s.size ≤ 32 ∧ validU s = true := by
  unfold base_Text
  obtain ⟨i, hi, ei⟩ := and_nat a 7 (by decide)
  obtain ⟨j, hj, ej⟩ := and_nat (shrI .i64 a 3) 7 (by decide)
  have ei : bitsI .and .i64 a 7 = (i : Int) := ei
  have ej : bitsI .and .i64 (shrI .i64 a 3) 7 = (j : Int) := ej
  have hg : ∀ k : Nat, k ≤ 7 → ∃ t ∈ texts, (texts.map PD.str)[k]? = some (.str t) := fun k hk => by
    have hl : texts.length = 8 := rfl
    exact ⟨texts[k]'(by omega), List.getElem_mem _, by simp [show k < texts.length by omega]⟩
  obtain ⟨t1, m1, g1⟩ := hg i hi
  obtain ⟨t2, m2, g2⟩ := hg j hj
  obtain ⟨z1, z2, z3⟩ := texts_ok m1 m2
  have g1 : [(PD.str (bs [])), (PD.str (bs [97])), (PD.str (bs [98])), (PD.str (bs [108, 111, 103, 105, 110])), (PD.str (bs [107, 101, 121])), (PD.str (bs [101, 120, 97, 109, 112, 108, 101, 46, 111, 114, 103])), (PD.str (bs [195, 169])), (PD.str (bs [48, 49, 50, 51, 52, 53, 54, 55, 56, 57, 48, 49, 50, 51, 52, 53]))][i]? = some (.str t1) := g1
  have g2 : [(PD.str (bs [])), (PD.str (bs [97])), (PD.str (bs [98])), (PD.str (bs [108, 111, 103, 105, 110])), (PD.str (bs [107, 101, 121])), (PD.str (bs [101, 120, 97, 109, 112, 108, 101, 46, 111, 114, 103])), (PD.str (bs [195, 169])), (PD.str (bs [48, 49, 50, 51, 52, 53, 54, 55, 56, 57, 48, 49, 50, 51, 52, 53]))][j]? = some (.str t2) := g2
  refine ⟨t1 ++ t2, ?_, z1, z2⟩
  rw [ei, ej, condT' (by simp [inRange]; omega), Int.toNat_natCast, g1, Option.bind_some]
  have s1 : PD.strAt (.str t1) 0 = some t1 := rfl
  have s2 : PD.strAt (.str t2) 0 = some t2 := rfl
  rw [s1, Option.bind_some, condT' (by simp [inRange]; omega), Int.toNat_natCast, Option.bind_some, g2, Option.bind_some, s2, Option.bind_some, condT' (by simp; omega)]
/-- What the law's own credentials are like. -/
structure BaseC (c : Cred) : Prop where
  rp : c.rp ∈ rps
  user : c.user ∈ users
  name : c.name.size ≤ 32 ∧ validU c.name = true
  seed : 0 ≤ c.seed ∧ c.seed < 2 ^ 64
  height : 1 ≤ c.height ∧ c.height ≤ 2
  prot : 1 ≤ c.prot ∧ c.prot ≤ 3
  sh : c.sh = true → c.res = true
  ba : c.ba = true → c.sh = true
theorem BaseC.valid {c : Cred} (h : BaseC c) : vcode c = 0 := by
  obtain ⟨r1, r2, r3⟩ := rps_ok h.rp
  obtain ⟨u1, u2⟩ := users_ok h.user
  have h1 := h.name; have h2 := h.height; have h3 := h.prot; have h4 := h.sh; have h5 := h.ba
  unfold vcode
  rw [if_neg (by omega), if_neg (by rw [r3, h1.2]; simp), if_neg]
  rintro (⟨a, b⟩ | ⟨a, b⟩)
  · rw [h4 a] at b; cases b
  · rw [h5 a] at b; cases b
theorem base_val (n : Int) (hn : 0 ≤ n) : ∃ c : Cred, base_Credential n = some c.t ∧ BaseC c := by
  obtain ⟨rp, e1, m1⟩ := base_RP_val n
  obtain ⟨us, e2, m2⟩ := base_User_val (shrI .i64 n 2)
  obtain ⟨tx, e3, z1, z2⟩ := base_Text_val (shrI .i64 n 4)
  obtain ⟨k, hk, ek⟩ := and_nat (shrI .i64 n 3) 1 (by decide)
  have ek : bitsI .and .i64 (shrI .i64 n 3) 1 = (k : Int) := ek
  have t3 := tmod3 _ (shr_nn n 5 hn)
  have hh : IntKind.i64.wrap (1 + bitsI .and .i64 (shrI .i64 n 3) 1) = 1 + (k : Int) := by rw [ek, wrap64 (by omega) (by omega)]
  have hp : IntKind.i64.wrap (1 + Int.tmod (shrI .i64 n 5) 3) = 1 + Int.tmod (shrI .i64 n 5) 3 := wrap64 (by omega) (by omega)
  unfold base_Credential
  rw [e1, Option.bind_some, e2, Option.bind_some, e3, Option.bind_some, Option.bind_some, Option.bind_some, Option.bind_some, hh, hp]
  obtain ⟨sd, hsd⟩ : ∃ sd, sd = IntKind.u64.wrap (IntKind.u64.wrap n * 11400714819323198485) := ⟨_, rfl⟩
  have hs0 := wrapU64_nonneg (IntKind.u64.wrap n * 11400714819323198485)
  have hs1 := wrapU64_le (IntKind.u64.wrap n * 11400714819323198485)
  rw [← hsd] at hs0 hs1 ⊢
  have hb : (2 : Int) ^ 64 = 18446744073709551616 := by decide
  obtain ⟨p, hpp⟩ : ∃ p, p = 1 + Int.tmod (shrI .i64 n 5) 3 := ⟨_, rfl⟩
  rw [← hpp]
  generalize (bitsI .and .i64 (shrI .i64 n 7) 1 == 1) = r
  generalize hs : (bitsI .and .i64 (shrI .i64 n 8) 1 == 1) = s
  cases r with
  | false =>
    refine ⟨⟨rp, us, tx, sd, 1 + (k : Int), false, p, false, false⟩, rfl, ⟨m1, m2, ⟨z1, z2⟩, ⟨hs0, ?_⟩, ⟨?_, ?_⟩, ⟨?_, ?_⟩, ?_, ?_⟩⟩ <;> simp <;> omega
  | true =>
    rw [cond_true]
    unfold base_Credential_j4 base_Credential_j4B
    dsimp only
    cases s with
    | false => refine ⟨⟨rp, us, tx, sd, 1 + (k : Int), true, p, false, false⟩, rfl, ⟨m1, m2, ⟨z1, z2⟩, ⟨hs0, ?_⟩, ⟨?_, ?_⟩, ⟨?_, ?_⟩, ?_, ?_⟩⟩ <;> simp <;> omega
    | true => refine ⟨⟨rp, us, tx, sd, 1 + (k : Int), true, p, true, (bitsI .and .i64 (shrI .i64 n 9) 1 == 1)⟩, rfl, ⟨m1, m2, ⟨z1, z2⟩, ⟨hs0, ?_⟩, ⟨?_, ?_⟩, ⟨?_, ?_⟩, ?_, ?_⟩⟩ <;> simp <;> omega
end Go.Px
