/-
Chapter 15: what spoils a credential; CredentialKeys.
-/
import Derived.Test.YtijjelcejpikiaaGreatDoorEvLcred
import Derived.Test.YtijjelcejpikiaaGreatDoorEvLtree
import Derived.Test.YtijjelcejpikiaaGreatDoorEvA15
set_option linter.unusedVariables false
set_option linter.unusedSimpArgs false
set_option maxRecDepth 20000
namespace Go.Px
open Go Go.Ev
/-- What a spoiled credential keeps. -/
structure Spoilt (c d : Cred) : Prop where
  seed : d.seed = c.seed
  rp : d.rp.size ≤ 65
  user : d.user.size ≤ 17
  name : d.name.size ≤ 33
theorem at4 {n : Nat} (h : n ≤ 3) (a b c d : ByteArray) : [PD.str a, PD.str b, PD.str c, PD.str d][n]? = some (.str (if n = 0 then a else if n = 1 then b else if n = 2 then c else d)) := by
  have : n = 0 ∨ n = 1 ∨ n = 2 ∨ n = 3 := by omega
  rcases this with rfl | rfl | rfl | rfl <;> rfl
theorem spoil_val (c : Cred) (n : Int) (h1 : c.rp.size ≤ 64) (h2 : c.user.size ≤ 16) (h3 : c.name.size ≤ 32) :
    ∃ d : Cred, law15_spoil c.rp c.user c.name c.seed c.height c.res c.prot c.sh c.ba n = some d.t ∧ Spoilt c d := by
  obtain ⟨rp, user, name, seed, height, res, prot, sh, ba⟩ := c
  unfold law15_spoil
  rw [Option.bind_some]
  dsimp only at h1 h2 h3 ⊢
  obtain ⟨i, hi, ei⟩ := and_nat (bitsI .and .i64 (shrI .i64 n 4) 65535) 3 (by decide)
  have ei : bitsI .and .i64 (bitsI .and .i64 (shrI .i64 n 4) 65535) 3 = (i : Int) := ei
  rw [ei, Int.toNat_natCast]
  have hin : inRange (i : Int) 4 = true := by simp [inRange]; omega
  have j19 : ∀ x : CT9, law15_spoil_j19 (((), ()), (x, ((bs []), (bs []), (bs []), 0, 0, false, 0, false, false))) = some ((), x) := fun x => rfl
  have sz : ∀ (s : ByteArray), PD.strAt (.str s) 0 = some s := fun s => rfl
  cases c0 : (bitsI .and .i64 n 15 == 0) with
  | true =>
    rw [cond_true, hin, cond_true, at4 hi, Option.bind_some, sz, Option.bind_some, j19]
    refine ⟨⟨_, user, name, seed, height, res, prot, sh, ba⟩, rfl, rfl, ?_, by dsimp only; omega, by dsimp only; omega⟩
    dsimp only
    split
    · decide
    split
    · decide
    split
    · decide
    · simp [strOf, ByteArray.size]
  | false =>
  rw [cond_false]
  cases c1 : (bitsI .and .i64 n 15 == 1) with
  | true =>
    rw [cond_true, hin, cond_true, at4 hi, Option.bind_some, sz, Option.bind_some, j19]
    refine ⟨⟨rp, _, name, seed, height, res, prot, sh, ba⟩, rfl, rfl, by dsimp only; omega, ?_, by dsimp only; omega⟩
    dsimp only
    split
    · decide
    split
    · decide
    split
    · decide
    · decide
  | false =>
  rw [cond_false]
  cases c2 : (bitsI .and .i64 n 15 == 2) with
  | true =>
    rw [cond_true, hin, cond_true, at4 hi, Option.bind_some, sz, Option.bind_some, j19]
    refine ⟨⟨rp, user, _, seed, height, res, prot, sh, ba⟩, rfl, rfl, by dsimp only; omega, by dsimp only; omega, ?_⟩
    dsimp only
    split
    · decide
    split
    · decide
    split
    · decide
    · decide
  | false =>
  rw [cond_false]
  cases (bitsI .and .i64 n 15 == 3) with
  | true => exact ⟨⟨rp, user, name, seed, _, res, prot, sh, ba⟩, rfl, rfl, by dsimp only; omega, by dsimp only; omega, by dsimp only; omega⟩
  | false =>
  cases (bitsI .and .i64 n 15 == 4) with
  | true => exact ⟨⟨rp, user, name, seed, height, res, _, sh, ba⟩, rfl, rfl, by dsimp only; omega, by dsimp only; omega, by dsimp only; omega⟩
  | false =>
  cases (bitsI .and .i64 n 15 == 5) with
  | true => exact ⟨⟨rp, user, name, seed, height, res, prot, _, ba⟩, rfl, rfl, by dsimp only; omega, by dsimp only; omega, by dsimp only; omega⟩
  | false =>
  cases (bitsI .and .i64 n 15 == 6) with
  | true => exact ⟨⟨rp, user, name, seed, height, res, prot, sh, _⟩, rfl, rfl, by dsimp only; omega, by dsimp only; omega, by dsimp only; omega⟩
  | false =>
  cases (bitsI .and .i64 n 15 == 7) with
  | true => exact ⟨⟨rp, user, name, seed, height, _, prot, sh, ba⟩, rfl, rfl, by dsimp only; omega, by dsimp only; omega, by dsimp only; omega⟩
  | false => exact ⟨⟨rp, user, name, seed, height, res, prot, sh, ba⟩, rfl, rfl, by dsimp only; omega, by dsimp only; omega, by dsimp only; omega⟩
theorem base_n (n : Int) : ∃ c : Cred, base_Credential (bitsI .and .i64 n 1048575) = some c.t ∧ BaseC c := base_val _ (and_mask n 1048575 (by decide)).1
def keyv (c : Cred) : (Int × Int) × Int := if vcode c = 0 then (if 0 ≤ c.height ∧ c.height ≤ 4 then ((c.height, tree c.seed c.height.toNat 0), 0) else ((0, 0), 9)) else ((0, 0), vcode c)
theorem keyc (c : Cred) : credential_Key c.rp c.user c.name c.seed c.height c.res c.prot c.sh c.ba = some (keyv c) := by
  unfold credential_Key keyv
  rw [valc, Option.bind_some]
  by_cases h : vcode c = 0
  · rw [condF' (by simpa using h), if_pos h, publicc]
    split <;> rfl
  · rw [condT' (by simpa using h), if_neg h]
theorem keyr (c : Cred) : ref14_Key c.rp c.user c.name c.seed c.height c.res c.prot c.sh c.ba = some (keyv c) := by
  unfold ref14_Key keyv
  rw [valr, Option.bind_some]
  by_cases h : vcode c = 0
  · rw [condF' (by simpa using h), if_pos h, publicr]
    split <;> rfl
  · rw [condT' (by simpa using h), if_neg h]
theorem keys_true (n m : Int) : law15_CredentialKeys n m = some true := by
  unfold law15_CredentialKeys
  obtain ⟨c, e, hb⟩ := base_n n
  obtain ⟨r1, r2, r3⟩ := rps_ok hb.rp
  obtain ⟨u1, u2⟩ := users_ok hb.user
  obtain ⟨d, e2, hs⟩ := spoil_val c m r2 u2 hb.name.1
  rw [e, Option.bind_some]
  unfold Cred.t at e2 ⊢
  dsimp only
  rw [e2, Option.bind_some]
  dsimp only
  rw [keyc, Option.bind_some, keyr, Option.bind_some]
  simp only [beq_self_eq_true, Bool.and_self, cond_true, awake_true]
  rfl
end Go.Px
