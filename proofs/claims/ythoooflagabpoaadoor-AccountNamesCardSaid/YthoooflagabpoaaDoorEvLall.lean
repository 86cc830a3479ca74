/-
The identifiers that a party sends, in the program and in the reference.
-/
import Derived.Test.YthoooflagabpoaaDoorEvLsrt
set_option linter.unusedVariables false
set_option linter.unusedSimpArgs false
set_option maxRecDepth 20000
namespace Go.Px
open Go Go.Ev
abbrev strsP (S : List (List Int)) : List PD := S.map fun r => PD.str (strOf r)
/-- Rows of bytes, none of them long. -/
def RowsB (S : List (List Int)) : Prop := ∀ r ∈ S, Byt r ∧ r.length ≤ 1024
theorem RowsB.insR {S : List (List Int)} {x : List Int} (h : RowsB S) (hx : Byt x ∧ x.length ≤ 1024) : RowsB (insR x S) := fun r hr => by
  rcases (mem_insR x S r).1 hr with rfl | hr
  · exact hx
  · exact h r hr
theorem RowsB.append {S T : List (List Int)} (h : RowsB S) (h' : RowsB T) : RowsB (S ++ T) := fun r hr => (List.mem_append.1 hr).elim (h r) (h' r)
theorem mem_sortR (l : List (List Int)) : ∀ (p : List (List Int)) z, z ∈ l.foldl (fun p x => insR x p) p ↔ z ∈ l ∨ z ∈ p := by
  induction l with
  | nil => intro p z; simp
  | cons x l ih =>
    intro p z
    rw [List.foldl_cons, ih, mem_insR, List.mem_cons]
    constructor
    · rintro (h | h | h) <;> simp [h]
    · rintro ((h | h) | h) <;> simp [h]
theorem RowsB.sortR {S : List (List Int)} (h : RowsB S) : RowsB (sortR S) := fun r hr => by
  rcases (mem_sortR S [] r).1 hr with h1 | h1
  · exact h r h1
  · simp at h1
theorem sortR_append (l : List (List Int)) (x : List Int) : sortR (l ++ [x]) = insR x (sortR l) := by
  unfold sortR
  rw [List.foldl_append]
  rfl
theorem sortR_len (l : List (List Int)) : (sortR l).length = l.length := by
  have : ∀ (l p : List (List Int)), (l.foldl (fun p x => Go.Px.insR x p) p).length = p.length + l.length := by
    intro l
    induction l with
    | nil => intro p; simp
    | cons x l ih => intro p; rw [List.foldl_cons, ih, insR_len, List.length_cons]; omega
  have := this l []
  simpa [sortR] using this
theorem insR_mid (x y : List Int) (q : List (List Int)) (h : ¬ cmpL y x ≤ 0) : ∀ p, (∀ z ∈ p, cmpL z x ≤ 0) → insR x (p ++ y :: q) = p ++ x :: y :: q
  | [], _ => by simp [insR, h]
  | z :: p, hp => by
    rw [List.cons_append, insR, if_pos (hp z (by simp)), insR_mid x y q h p fun w hw => hp w (by simp [hw])]
    rfl
theorem insert_loop (x : List Int) (hx : Byt x) : ∀ (q p : List (List Int)), (∀ z ∈ p, cmpL z x ≤ 0) → RowsB (p ++ q) → (p ++ q).length ≤ 1000 →
    ∃ k : Nat, k ≤ (p ++ q).length ∧ loopFix ref29_insert_l2 (strsP (p ++ q), strOf x, (p.length : Int)) = some (strsP (p ++ q), strOf x, (k : Int)) ∧ insR x (p ++ q) = (p ++ q).take k ++ x :: (p ++ q).drop k
  | [], p, hp, hr, hl => by
    refine ⟨p.length, by simp, loopFix_inr ?_, ?_⟩
    · unfold ref29_insert_l2
      dsimp only
      rw [condF' (by simp)]
    · rw [List.append_nil, insR_ge x p hp, List.take_length, List.drop_length]
  | y :: q, p, hp, hr, hl => by
    have hy := hr y (by simp)
    have hg : getI (strsP (p ++ y :: q)) (p.length : Int) = some (.str (strOf y)) := by
      rw [getI_at _ _ (by simp)]
      simp
    have hs : ref29_insert_l2 (strsP (p ++ y :: q), strOf x, (p.length : Int)) = cond (decide (cmpL y x ≤ 0)) (some (.inl (strsP (p ++ y :: q), strOf x, ((p ++ [y]).length : Int)))) (some (.inr (strsP (p ++ y :: q), strOf x, (p.length : Int)))) := by
      unfold ref29_insert_l2
      dsimp only
      rw [condT' (by simp; omega), hg, Option.bind_some, show PD.strAt (.str (strOf y)) 0 = some (strOf y) from rfl, Option.bind_some, strLe_strOf hy.1 hx, wrap64 (by simp at hl; omega) (by simp at hl; omega)]
      simp
    by_cases h : cmpL y x ≤ 0
    · rw [condT' (by simpa using h)] at hs
      have e : p ++ y :: q = (p ++ [y]) ++ q := by simp
      obtain ⟨k, h1, h2, h3⟩ := insert_loop x hx q (p ++ [y]) (fun z hz => by
        rcases List.mem_append.1 hz with hz | hz
        · exact hp z hz
        · simp at hz; subst hz; exact h) (by rwa [← e]) (by rwa [← e])
      refine ⟨k, by rwa [e], ?_, by rwa [e]⟩
      rw [loopFix_inl hs, e]
      exact h2
    · rw [condF' (by simpa using h)] at hs
      refine ⟨p.length, by simp, loopFix_inr hs, ?_⟩
      rw [insR_mid x y q h p hp]
      simp
theorem cut_drop' {A : Type} (b : List A) (n : Nat) : cut b (n : Int) ((b.length : Nat) : Int) = b.drop n := by unfold cut; simp
theorem insertr (S : List (List Int)) (x : List Int) (hS : RowsB S) (hx : Byt x) (hl : S.length ≤ 1000) : ref29_insert (strsP S) (strOf x) = some ((), strsP (insR x S)) := by
  unfold ref29_insert
  obtain ⟨k, h1, h2, h3⟩ := insert_loop x hx S [] (fun z h => by simp at h) hS hl
  rw [List.nil_append] at h1 h2 h3
  have h2' : loopFix ref29_insert_l2 (strsP S, strOf x, 0) = _ := h2
  have hlen : (strsP S).length = S.length := by simp
  have c1 : cut (strsP S) 0 (k : Int) = strsP (S.take k) := by rw [show cut (strsP S) 0 (k : Int) = (strsP S).take k by unfold cut; simp]; simp
  have c2 : cut (strsP S) (k : Int) ((S.length : Nat) : Int) = strsP (S.drop k) := by
    rw [← hlen, cut_drop']
    simp only [strsP, List.map_drop]
  rw [h2', Option.bind_some]
  dsimp only
  rw [hlen, okBounds_true (by omega) (by omega) (by omega), okBounds_true (l := (k : Int)) (by omega) (by omega) (by omega), c1, c2]
  rw [condT' (by simp; omega), condT' (by simp; omega), condT' (by simp; omega), Option.bind_some, condT' (by simp), Option.bind_some, condT' (by simp; omega), h3]
  simp
/-! ### Decoys -/
def dec (key : Int) (c : Nat) : List (List Int) := (List.range c).map fun i : Nat => stream key (i : Int) 176
theorem dec_succ (key : Int) (c : Nat) : dec key (c + 1) = dec key c ++ [stream key (c : Int) 176] := by simp [dec, List.range_succ]
theorem dec_len (key : Int) (c : Nat) : (dec key c).length = c := by simp [dec]
theorem dec_rows (key : Int) (c : Nat) : RowsB (dec key c) := fun r hr => by
  obtain ⟨i, _, rfl⟩ := List.mem_map.1 hr
  exact ⟨stream_byt _ _ _, by rw [stream_len]; omega⟩
theorem decoysc (key : Int) (R : List (List Int)) : ∀ j : Nat, R.length + j ≤ 4 →
    loopFix account_Allowed_l12 (((), key, (((4 - R.length) - j : Nat) : Int)), rowsP (R ++ dec key ((4 - R.length) - j))) = some ((), rowsP (R ++ dec key (4 - R.length))) := by
  intro j
  induction j with
  | zero =>
    intro hj
    refine loopFix_inr ?_
    unfold account_Allowed_l12
    dsimp only
    rw [condF' (by simp [dec_len]; omega)]
    rfl
  | succ j ih =>
    intro hj
    rw [← ih (by omega)]
    obtain ⟨q, hq⟩ : ∃ q, q = (4 - R.length) - (j + 1) := ⟨_, rfl⟩
    have hq2 : (4 - R.length) - j = q + 1 := by omega
    rw [← hq, hq2]
    refine loopFix_inl ?_
    unfold account_Allowed_l12
    dsimp only
    rw [condT' (by simp [dec_len]; omega)]
    have hs : seal_Stream key (q : Int) 176 = _ := streamc key (q : Int) 176 (by omega)
    rw [hs, Option.bind_some, condT' (by simp [dec_len]; omega), wrapU64 (by omega) (by omega), dec_succ]
    simp
theorem decoysr (key : Int) (R : List (List Int)) (hR : RowsB R) : ∀ j : Nat, R.length + j ≤ 4 →
    loopFix ref29_Allowed_l12 (((), key, (((4 - R.length) - j : Nat) : Int)), strsP (sortR (R ++ dec key ((4 - R.length) - j)))) = some ((), strsP (sortR (R ++ dec key (4 - R.length)))) := by
  intro j
  induction j with
  | zero =>
    intro hj
    refine loopFix_inr ?_
    unfold ref29_Allowed_l12
    dsimp only
    rw [condF' (by simp [dec_len, sortR_len]; omega)]
    rfl
  | succ j ih =>
    intro hj
    rw [← ih (by omega)]
    obtain ⟨q, hq⟩ : ∃ q, q = (4 - R.length) - (j + 1) := ⟨_, rfl⟩
    have hq2 : (4 - R.length) - j = q + 1 := by omega
    rw [← hq, hq2]
    refine loopFix_inl ?_
    unfold ref29_Allowed_l12
    dsimp only
    rw [condT' (by simp [dec_len, sortR_len]; omega)]
    have hs : ref3_Stream key (q : Int) 176 = _ := streamr key (q : Int) 176 (by omega)
    rw [hs, Option.bind_some, insertr _ _ ((hR.append (dec_rows key q)).sortR) (stream_byt _ _ _) (by rw [sortR_len]; simp [dec_len]; omega), Option.bind_some, wrapU64 (by omega) (by omega), dec_succ, ← List.append_assoc, sortR_append]
    rfl
theorem texts (S : List (List Int)) (hS : RowsB S) (hl : S.length ≤ 100) : ∀ j : Nat, j ≤ S.length →
    loopFix ref29_Allowed_l17 (((), (), ((S.length - j : Nat) : Int)), (strsP S, rowsP (S.take (S.length - j)))) = some ((), rowsP S) := by
  intro j
  induction j with
  | zero =>
    intro hj
    refine loopFix_inr ?_
    unfold ref29_Allowed_l17
    dsimp only
    rw [condF' (by simp), Nat.sub_zero, List.take_length]
  | succ j ih =>
    intro hj
    rw [← ih (by omega)]
    obtain ⟨q, hq⟩ : ∃ q, q = S.length - (j + 1) := ⟨_, rfl⟩
    have hq2 : S.length - j = q + 1 := by omega
    rw [← hq, hq2]
    have hlt : q < S.length := by omega
    obtain ⟨hb, hrl⟩ := hS S[q] (List.getElem_mem hlt)
    refine loopFix_inl ?_
    unfold ref29_Allowed_l17
    dsimp only
    have hg : (strsP S)[Int.toNat (q : Int)]? = some (.str (strOf S[q])) := by simp [hlt]
    rw [condT' (by simp; omega), condT' (inRange_true (by omega) (by simp; omega)), hg, Option.bind_some, show PD.strAt (.str (strOf S[q])) 0 = some (strOf S[q]) from rfl, Option.bind_some,
      condT' (by rw [strOf_size]; simp; omega), condT' (by simp; omega), bytesOf_strOf hb, wrap64 (by omega) (by omega)]
    have e : rowsP (S.take (q + 1)) = rowsP (S.take q) ++ [.nums .u8 S[q]] := by
      rw [List.take_add_one, List.getElem?_eq_getElem hlt]
      simp only [rowsP, List.map_append, Option.toList, List.map_cons, List.map_nil]
    rw [e]
    rfl
/-! ### The rest of Allowed -/
theorem allowc (secret : Int) (name : ByteArray) (R : List (List Int)) (hR : RowsB R) (hl : R.length ≤ 4) (hn : name.size ≤ 1000000) :
    account_Allowed_j10 ((secret, name, ()), rowsP R) = some ((), rowsP (sortR (R ++ dec (mac secret 20 (bytesOf name)) (4 - R.length)))) := by
  unfold account_Allowed_j10
  dsimp only
  have hbl : (bytesOf name).length = name.size := bytesOf_length name
  rw [condT' (by simp; omega), macc _ _ _ (Byt.bytesOf _) (by rw [hbl]; simp [maxLen]; omega), Option.bind_some]
  have h := decoysc (mac secret 20 (bytesOf name)) R (4 - R.length) (by omega)
  rw [Nat.sub_self] at h
  have h' : loopFix account_Allowed_l12 (((), mac secret 20 (bytesOf name), 0), rowsP (R ++ [])) = _ := h
  rw [List.append_nil] at h'
  rw [h', Option.bind_some]
  dsimp only
  obtain ⟨A, hA⟩ : ∃ A, A = R ++ dec (mac secret 20 (bytesOf name)) (4 - R.length) := ⟨_, rfl⟩
  have hAl : A.length = 4 := by rw [hA, List.length_append, dec_len]; omega
  have hAr : RowsB A := hA ▸ hR.append (dec_rows _ _)
  rw [← hA]
  have hsort : slices_SortFunc_LLbyte_Lbyte_e55 (rowsP A) = some ((), rowsP (sortR A)) := by
    unfold slices_SortFunc_LLbyte_Lbyte_e55
    rw [List.length_map, hAl, Option.bind_some, show bits_Len (IntKind.u64.wrap ((4 : Nat) : Int)) = some 3 by kernel_rfl, Option.bind_some]
    have hi := insertionc A (by omega) (by omega) fun r hr => by have := (hAr r hr).2; omega
    rw [hAl] at hi
    have hp : slices_pdqsortCmpFunc_Lbyte_71e 0 ((4 : Nat) : Int) 3 (rowsP A) = some ((), rowsP (sortR A)) := by
      unfold slices_pdqsortCmpFunc_Lbyte_71e
      rw [loopFix_inr (r := ((), rowsP (sortR A))) (by
        unfold slices_pdqsortCmpFunc_Lbyte_71e_l2
        dsimp only
        rw [condT' (by kernel_rfl), hi]
        rfl)]
      rfl
    rw [hp]
    rfl
  rw [hsort]
  rfl
theorem allowr (secret : Int) (name : ByteArray) (R : List (List Int)) (hR : RowsB R) (hl : R.length ≤ 4) (hn : name.size ≤ 1000000) :
    ref29_Allowed_j10 ((secret, name, ()), strsP (sortR R)) = some ((), rowsP (sortR (R ++ dec (mac secret 20 (bytesOf name)) (4 - R.length)))) := by
  unfold ref29_Allowed_j10
  dsimp only
  have hbl : (bytesOf name).length = name.size := bytesOf_length name
  rw [condT' (by simp; omega), macr _ _ _ (Byt.bytesOf _) (by rw [hbl]; omega), Option.bind_some]
  have h := decoysr (mac secret 20 (bytesOf name)) R hR (4 - R.length) (by omega)
  rw [Nat.sub_self] at h
  have h' : loopFix ref29_Allowed_l12 (((), mac secret 20 (bytesOf name), 0), strsP (sortR (R ++ []))) = _ := h
  rw [List.append_nil] at h'
  rw [h', Option.bind_some]
  dsimp only
  obtain ⟨A, hA⟩ : ∃ A, A = sortR (R ++ dec (mac secret 20 (bytesOf name)) (4 - R.length)) := ⟨_, rfl⟩
  have hAl : A.length = 4 := by rw [hA, sortR_len, List.length_append, dec_len]; omega
  have hAr : RowsB A := hA ▸ (hR.append (dec_rows _ _)).sortR
  rw [← hA]
  have ht := texts A hAr (by omega) A.length (Nat.le_refl _)
  rw [Nat.sub_self] at ht
  have ht' : loopFix ref29_Allowed_l17 (((), (), 0), (strsP A, [])) = _ := ht
  rw [ht']
  rfl
theorem samelist (S : List (List Int)) (hl : S.length ≤ 1000) : ref29_SameList (rowsP S) (rowsP S) = some true := by
  unfold ref29_SameList
  rw [condF' (by simp)]
  have key : ∀ j : Nat, j ≤ S.length → loopFix ref29_SameList_l4 (rowsP S, rowsP S, ((S.length - j : Nat) : Int)) = some (.inr ()) := by
    intro j
    induction j with
    | zero =>
      intro hj
      refine loopFix_inr ?_
      unfold ref29_SameList_l4
      dsimp only
      rw [condF' (by simp)]
    | succ j ih =>
      intro hj
      rw [← ih (by omega)]
      obtain ⟨q, hq⟩ : ∃ q, q = S.length - (j + 1) := ⟨_, rfl⟩
      have hq2 : S.length - j = q + 1 := by omega
      rw [← hq, hq2]
      have hlt : q < S.length := by omega
      refine loopFix_inl ?_
      unfold ref29_SameList_l4
      dsimp only
      have hg : getI (rowsP S) (q : Int) = some (.nums .u8 S[q]) := by rw [getI_at _ _ (by simpa using hlt)]; simp
      rw [condT' (by simp; omega), hg, Option.bind_some, show PD.numsAt .u8 (.nums .u8 S[q]) 0 = some S[q] from rfl]
      simp only [Option.bind_some]
      rw [show PD.numsAt .u8 (.nums .u8 S[q]) 0 = some S[q] from rfl]
      simp only [Option.bind_some]
      rw [strEq_refl, condF' (by rfl), wrap64 (by omega) (by omega)]
      rfl
  have := key S.length (Nat.le_refl _)
  rw [Nat.sub_self] at this
  have h' : loopFix ref29_SameList_l4 (rowsP S, rowsP S, 0) = _ := this
  rw [h']
  rfl
end Go.Px
