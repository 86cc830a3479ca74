/-
Rows of bytes put in order: the library's sort of a few rows, and the reference's insertion.
-/
import Derived.Test.YthoooflagabpoaaDoorEvLstr
set_option linter.unusedVariables false
set_option linter.unusedSimpArgs false
set_option maxRecDepth 20000
namespace Go.Px
open Go Go.Ev
/-! ### Strings of bytes -/
theorem toList_strOf {a : List Int} (ha : Byt a) : (strOf a).toList.map (fun b => (b.toNat : Int)) = a := by
  rw [ByteArray.toList_eq]
  unfold strOf
  simp only [List.map_map]
  refine (List.map_congr_left fun x hx => ?_).trans (List.map_id a)
  obtain ⟨h0, h1⟩ := ha x hx
  simp only [Function.comp, id, UInt8.toNat_ofNat']
  omega
theorem bytesOf_strOf {a : List Int} (ha : Byt a) : bytesOf (strOf a) = a := by
  have := toList_strOf ha
  rw [ByteArray.toList_eq] at this
  exact this
theorem strOf_bytesOf (s : ByteArray) : strOf (bytesOf s) = s := by
  unfold strOf bytesOf
  cases s with | mk d =>
  congr 1
  apply Array.ext'
  simp only [List.map_map, List.toList_toArray]
  refine (List.map_congr_left fun x hx => ?_).trans (List.map_id d.toList)
  simp
theorem strOf_size (a : List Int) : (strOf a).size = a.length := by
  show ((a.map _).toArray).size = _
  simp
theorem strEq_iff (x y : ByteArray) : strEq x y = true ↔ x = y := by
  unfold strEq
  rw [beq_iff_eq, ByteArray.toList_eq, ByteArray.toList_eq]
  constructor
  · intro h
    cases x with | mk a => cases y with | mk b =>
    congr 1
    exact Array.ext' h
  · rintro rfl; rfl
theorem strEq_refl (x : ByteArray) : strEq x x = true := (strEq_iff x x).2 rfl
theorem strOf_inj {a b : List Int} (ha : Byt a) (hb : Byt b) (h : strOf a = strOf b) : a = b := by
  rw [← bytesOf_strOf ha, ← bytesOf_strOf hb, h]
/-! ### The order of rows -/
/-- -1, 0 or 1. -/
def cmpL : List Int → List Int → Int
  | [], [] => 0
  | [], _ :: _ => -1
  | _ :: _, [] => 1
  | a :: x, b :: y => if a < b then -1 else if a > b then 1 else cmpL x y
theorem cmpL_refl : ∀ x, cmpL x x = 0
  | [] => rfl
  | a :: x => by simp [cmpL, cmpL_refl x]
theorem cmpL_range : ∀ x y, cmpL x y = -1 ∨ cmpL x y = 0 ∨ cmpL x y = 1
  | [], [] => by simp [cmpL]
  | [], _ :: _ => by simp [cmpL]
  | _ :: _, [] => by simp [cmpL]
  | a :: x, b :: y => by
    unfold cmpL
    split
    · simp
    · split
      · simp
      · exact cmpL_range x y
theorem cmpL_eq : ∀ x y, cmpL x y = 0 → x = y
  | [], [], _ => rfl
  | [], _ :: _, h => by simp [cmpL] at h
  | _ :: _, [], h => by simp [cmpL] at h
  | a :: x, b :: y, h => by
    unfold cmpL at h
    split at h
    · simp at h
    · split at h
      · simp at h
      · rw [cmpL_eq x y h, show a = b by omega]
theorem cmpL_swap : ∀ x y, cmpL y x = - cmpL x y
  | [], [] => rfl
  | [], _ :: _ => rfl
  | _ :: _, [] => rfl
  | a :: x, b :: y => by
    unfold cmpL
    by_cases h1 : a < b
    · simp [h1, show ¬ b < a by omega]
    · by_cases h2 : a > b
      · simp [h1, h2, show b < a from h2]
      · rw [if_neg h1, if_neg h2, if_neg (show ¬ b < a by omega), if_neg (show ¬ b > a by omega)]
        exact cmpL_swap x y
theorem cmpL_trans : ∀ x y z, cmpL x y ≤ 0 → cmpL y z ≤ 0 → cmpL x z ≤ 0
  | [], _, [], _, _ => by simp [cmpL]
  | [], _, _ :: _, _, _ => by simp [cmpL]
  | _ :: _, [], _, h, _ => by simp [cmpL] at h
  | _ :: _, _ :: _, [], _, h => by simp [cmpL] at h
  | a :: x, b :: y, c :: z, h1, h2 => by
    unfold cmpL at h1 h2 ⊢
    by_cases e1 : a < b
    · by_cases e2 : b < c
      · rw [if_pos (by omega)]; omega
      · by_cases e3 : b > c
        · rw [if_neg e2, if_pos e3] at h2; omega
        · rw [if_pos (by omega)]; omega
    · by_cases e1' : a > b
      · rw [if_neg e1, if_pos e1'] at h1; omega
      · rw [if_neg e1, if_neg e1'] at h1
        by_cases e2 : b < c
        · rw [if_pos (by omega)]; omega
        · by_cases e3 : b > c
          · rw [if_neg e2, if_pos e3] at h2; omega
          · rw [if_neg e2, if_neg e3] at h2
            rw [if_neg (by omega), if_neg (by omega)]
            exact cmpL_trans x y z h1 h2
theorem bytesLess_cmp : ∀ (x y : List UInt8), Op.bytesLess x y = decide (cmpL (x.map fun b => (b.toNat : Int)) (y.map fun b => (b.toNat : Int)) < 0)
  | [], [] => rfl
  | _ :: _, [] => rfl
  | [], _ :: _ => rfl
  | a :: x, b :: y => by
    have ih := bytesLess_cmp x y
    simp only [Op.bytesLess, List.map_cons, cmpL]
    by_cases h1 : a.toNat < b.toNat
    · rw [if_pos (by omega), show (decide (a < b)) = true by simpa [UInt8.lt_iff_toNat_lt] using h1]
      rfl
    · rw [if_neg (by omega), show (decide (a < b)) = false by simpa [UInt8.lt_iff_toNat_lt, UInt8.le_iff_toNat_le] using h1]
      by_cases h2 : b.toNat < a.toNat
      · rw [if_pos (by omega), show (a == b) = false by simp; intro e; subst e; omega]
        rfl
      · rw [if_neg (by omega), show (a == b) = true by simp; exact UInt8.toNat_inj.1 (by omega), ih]
        simp
theorem strLt_strOf {a b : List Int} (ha : Byt a) (hb : Byt b) : strLt (strOf a) (strOf b) = decide (cmpL a b < 0) := by
  unfold strLt
  rw [bytesLess_cmp, toList_strOf ha, toList_strOf hb]
theorem strLe_strOf {a b : List Int} (ha : Byt a) (hb : Byt b) : (strLt (strOf a) (strOf b) || strEq (strOf a) (strOf b)) = decide (cmpL a b ≤ 0) := by
  rw [strLt_strOf ha hb]
  by_cases h : cmpL a b < 0
  · simp [h]; omega
  · by_cases h0 : cmpL a b = 0
    · rw [cmpL_eq _ _ h0, strEq_refl, cmpL_refl]; simp
    · have : strEq (strOf a) (strOf b) = false := by
        cases he : strEq (strOf a) (strOf b) with
        | false => rfl
        | true => exact absurd (by rw [strOf_inj ha hb ((strEq_iff _ _).1 he), cmpL_refl]) h0
      rw [this]
      simp
      omega
/-! ### The library's comparison -/
theorem cmpc (a b : Int) : cmp_Compare_byte a b = some (if a < b then -1 else if a > b then 1 else 0) := by
  unfold cmp_Compare_byte cmp_isNaN_byte
  simp only [Option.bind_some, bne_self_eq_false, cond_false]
  by_cases h1 : a < b
  · simp [h1]
  · by_cases h2 : a > b <;> simp [h1, h2]
theorem comparec (a b : List Int) (ha : a.length ≤ 1000000) (hb : b.length ≤ 1000000) : slices_Compare_Lbyte_byte a b = some (cmpL a b) := by
  unfold slices_Compare_Lbyte_byte
  have key : ∀ (j i : Nat), a.length - i = j → i ≤ a.length → i ≤ b.length →
      ∃ r, loopFix slices_Compare_Lbyte_byte_l2 (a, b, a, ((a.length : Nat) : Int), (i : Int)) = some r ∧ (match r with | .inl c => c = cmpL (a.drop i) (b.drop i) | .inr p => p = (a, b) ∧ cmpL (a.drop i) (b.drop i) = if a.length < b.length then -1 else 0) := by
    intro j
    induction j with
    | zero =>
      intro i hj hia hib
      refine ⟨.inr (a, b), loopFix_inr ?_, rfl, ?_⟩
      · unfold slices_Compare_Lbyte_byte_l2
        dsimp only
        rw [condF' (by simp; omega)]
      · rw [List.drop_eq_nil_of_le (by omega)]
        cases hd : b.drop i with
        | nil =>
          have := congrArg List.length hd
          simp at this
          rw [if_neg (by omega)]
          rfl
        | cons y l =>
          have := congrArg List.length hd
          simp at this
          rw [if_pos (by omega)]
          rfl
    | succ j ih =>
      intro i hj hia hib
      have hlt : i < a.length := by omega
      have ea := List.drop_eq_getElem_cons hlt
      have hstep : slices_Compare_Lbyte_byte_l2 (a, b, a, ((a.length : Nat) : Int), (i : Int)) = if h : i < b.length then (if a[i] < b[i] then some (.inr (.inl (-1))) else if a[i] > b[i] then some (.inr (.inl 1)) else some (.inl (a, b, a, ((a.length : Nat) : Int), ((i + 1 : Nat) : Int)))) else some (.inr (.inl 1)) := by
        unfold slices_Compare_Lbyte_byte_l2
        dsimp only
        rw [condT' (by simp; omega), getI_at a i hlt, Option.bind_some]
        by_cases h : i < b.length
        · rw [condF' (by simp; omega), getI_at b i h, Option.bind_some, cmpc, Option.bind_some, dif_pos h, wrap64 (by omega) (by omega)]
          by_cases h1 : a[i] < b[i]
          · simp [h1]
          · by_cases h2 : a[i] > b[i]
            · simp [h1, h2]
            · simp [h1, h2]
        · rw [condT' (by simp; omega), dif_neg h]
      by_cases h : i < b.length
      · have eb := List.drop_eq_getElem_cons h
        rw [dif_pos h] at hstep
        by_cases h1 : a[i] < b[i]
        · rw [if_pos h1] at hstep
          refine ⟨.inl (-1), loopFix_inr hstep, ?_⟩
          rw [ea, eb, cmpL, if_pos h1]
        · by_cases h2 : a[i] > b[i]
          · rw [if_neg h1, if_pos h2] at hstep
            refine ⟨.inl 1, loopFix_inr hstep, ?_⟩
            rw [ea, eb, cmpL, if_neg h1, if_pos h2]
          · rw [if_neg h1, if_neg h2] at hstep
            obtain ⟨r, hr, hq⟩ := ih (i + 1) (by omega) (by omega) (by omega)
            refine ⟨r, by rw [loopFix_inl hstep]; exact hr, ?_⟩
            rw [ea, eb, cmpL, if_neg h1, if_neg h2]
            exact hq
      · rw [dif_neg h] at hstep
        refine ⟨.inl 1, loopFix_inr hstep, ?_⟩
        have eb : b.drop i = [] := List.drop_eq_nil_of_le (by omega)
        rw [ea, eb]
        rfl
  obtain ⟨r, hr, hq⟩ := key a.length 0 rfl (by omega) (by omega)
  have hr' : loopFix slices_Compare_Lbyte_byte_l2 (a, b, a, ((a.length : Nat) : Int), 0) = some r := hr
  rw [hr', Option.bind_some]
  cases r with
  | inl c => exact congrArg some hq
  | inr p =>
    obtain ⟨rfl, hq⟩ := hq
    simp only [List.drop_zero] at hq
    dsimp only
    rw [hq]
    by_cases h : a.length < b.length
    · rw [condT' (by simp; omega), if_pos h]
    · rw [condF' (by simp; omega), if_neg h]
/-! ### Insertion -/
/-- x behind all rows that are not greater. -/
def insR (x : List Int) : List (List Int) → List (List Int)
  | [] => [x]
  | y :: l => if cmpL y x ≤ 0 then y :: insR x l else x :: y :: l
theorem insR_len (x : List Int) : ∀ l, (insR x l).length = l.length + 1
  | [] => rfl
  | y :: l => by unfold insR; split <;> simp [insR_len x l]
theorem mem_insR (x : List Int) : ∀ l z, z ∈ insR x l ↔ z = x ∨ z ∈ l
  | [], z => by simp [insR]
  | y :: l, z => by
    unfold insR
    split
    · rw [List.mem_cons, mem_insR x l z, List.mem_cons]
      constructor
      · rintro (h | h | h) <;> simp [h]
      · rintro (h | h | h) <;> simp [h]
    · simp
def SortedR : List (List Int) → Prop
  | [] => True
  | y :: l => (∀ z ∈ l, cmpL y z ≤ 0) ∧ SortedR l
theorem insR_sorted (x : List Int) : ∀ l, SortedR l → SortedR (insR x l)
  | [], _ => ⟨fun z h => by simp at h, trivial⟩
  | y :: l, h => by
    unfold insR
    split
    · rename_i hle
      refine ⟨fun z hz => ?_, insR_sorted x l h.2⟩
      rcases (mem_insR x l z).1 hz with rfl | hz
      · exact hle
      · exact h.1 z hz
    · rename_i hle
      have hxy : cmpL x y ≤ 0 := by have := cmpL_swap y x; omega
      refine ⟨fun z hz => ?_, h⟩
      rcases List.mem_cons.1 hz with rfl | hz
      · exact hxy
      · exact cmpL_trans _ _ _ hxy (h.1 z hz)
theorem insR_last_lt (x y : List Int) (h : cmpL x y < 0) : ∀ q, insR x (q ++ [y]) = insR x q ++ [y]
  | [] => by
    have : ¬ cmpL y x ≤ 0 := by have := cmpL_swap x y; omega
    simp [insR, this]
  | z :: q => by
    rw [List.cons_append, insR, insR, insR_last_lt x y h q]
    split <;> simp
theorem insR_ge (x : List Int) : ∀ p, (∀ z ∈ p, cmpL z x ≤ 0) → insR x p = p ++ [x]
  | [], _ => rfl
  | z :: p, h => by rw [insR, if_pos (h z (by simp)), insR_ge x p fun w hw => h w (by simp [hw])]; rfl
theorem sorted_last : ∀ (q : List (List Int)) (y : List Int), SortedR (q ++ [y]) → ∀ z ∈ q, cmpL z y ≤ 0
  | [], _, _, z, hz => by simp at hz
  | w :: q, y, h, z, hz => by
    rcases List.mem_cons.1 hz with rfl | hz
    · exact h.1 y (by simp)
    · exact sorted_last q y h.2 z hz
theorem sorted_init : ∀ (q : List (List Int)) (y : List Int), SortedR (q ++ [y]) → SortedR q
  | [], _, _ => trivial
  | w :: q, y, h => ⟨fun z hz => h.1 z (by simp [hz]), sorted_init q y h.2⟩
abbrev rowsP (R : List (List Int)) : List PD := R.map (PD.nums .u8)
theorem inner (B : Int) (N : Int) (hN : ∀ (R : List (List Int)), R.length ≤ 12 → (∀ r ∈ R, r.length ≤ 1000000) → True) (I : Int) : ∀ (p : List (List Int)) (x : List Int) (rest : List (List Int)), SortedR p → (p.length + 1 + rest.length ≤ 1000) → (∀ r ∈ p, r.length ≤ 1000000) → x.length ≤ 1000000 →
    loopFix slices_insertionSortCmpFunc_Lbyte_1de_l4 (((), 0, N, ((), ()), I, (p.length : Int)), rowsP (p ++ x :: rest)) = some (((), 0, N, ((), ()), I), rowsP (insR x p ++ rest)) := by
  intro p
  induction hn : p.length generalizing p with
  | zero =>
    intro x rest hs hl hr hx
    obtain rfl : p = [] := List.eq_nil_of_length_eq_zero hn
    refine loopFix_inr ?_
    unfold slices_insertionSortCmpFunc_Lbyte_1de_l4
    dsimp only
    rw [condF' (by simp)]
    rfl
  | succ m ih =>
    intro x rest hs hl hr hx
    obtain ⟨q, y, rfl⟩ : ∃ q y, p = q ++ [y] := ⟨p.dropLast, p.getLast (by intro e; subst e; simp at hn), (List.dropLast_concat_getLast _).symm⟩
    have hq : q.length = m := by simpa using hn
    have hyl : y.length ≤ 1000000 := hr y (by simp)
    have hget : ∀ (i : Nat) (r : List Int), (q ++ [y] ++ x :: rest)[i]? = some r → (rowsP (q ++ [y] ++ x :: rest))[i]? = some (.nums .u8 r) := fun i r h => by
      simp only [rowsP, List.getElem?_map, h, Option.map_some]
    have g1 : (rowsP (q ++ [y] ++ x :: rest))[Int.toNat ((m + 1 : Nat) : Int)]? = some (.nums .u8 x) := hget (m + 1) x (by rw [List.getElem?_append_right (by simp; omega)]; simp [hq])
    have g0 : (rowsP (q ++ [y] ++ x :: rest))[Int.toNat ((m : Nat) : Int)]? = some (.nums .u8 y) := hget m y (by rw [List.getElem?_append_left (by simp; omega), List.getElem?_append_right (by omega)]; simp [hq])
    have hlen : (rowsP (q ++ [y] ++ x :: rest)).length = m + 2 + rest.length := by simp [rowsP]; omega
    have hw : IntKind.i64.wrap (((m + 1 : Nat) : Int) - 1) = ((m : Nat) : Int) := by rw [wrap64 (by omega) (by omega)]; omega
    have r1 : inRange ((m + 1 : Nat) : Int) (m + 2 + rest.length) = true := inRange_true (by omega) (by omega)
    have r0 : inRange ((m : Nat) : Int) (m + 2 + rest.length) = true := inRange_true (by omega) (by omega)
    have n8 : ∀ r : List Int, PD.numsAt .u8 (.nums .u8 r) 0 = some r := fun r => rfl
    by_cases hlt : cmpL x y < 0
    · have hset : ((rowsP (q ++ [y] ++ x :: rest)).set (Int.toNat ((m + 1 : Nat) : Int)) (.nums .u8 y)).set (Int.toNat ((m : Nat) : Int)) (.nums .u8 x) = rowsP (q ++ x :: (y :: rest)) := by
        simp only [rowsP, Int.toNat_natCast, List.map_append, List.map_cons, List.map_nil, List.append_assoc, List.cons_append, List.nil_append]
        rw [List.set_append_right _ _ (by simp; omega), List.set_append_right _ _ (by simp; omega)]
        simp [hq]
      have hs1 : slices_insertionSortCmpFunc_Lbyte_1de_l4 (((), 0, N, ((), ()), I, ((m + 1 : Nat) : Int)), rowsP (q ++ [y] ++ x :: rest)) = some (.inl (((), 0, N, ((), ()), I, ((m : Nat) : Int)), rowsP (q ++ x :: (y :: rest)))) := by
        unfold slices_insertionSortCmpFunc_Lbyte_1de_l4
        dsimp only
        rw [condT' (by simp), hlen, hw, r1, r0, g1, g0]
        simp only [cond_true, Option.bind_some, n8]
        rw [comparec _ _ hx hyl, Option.bind_some, condT' (by simpa using hlt), List.length_set, hlen, r0, condT' (by simp; omega)]
        simp only [cond_true]
        rw [condT' (by simp; omega)]
        rw [hset]
      have := ih q hq x (y :: rest) (sorted_init q y hs) (by simp at hl ⊢; omega) (fun r h => hr r (by simp [h])) hx
      rw [loopFix_inl hs1, this, insR_last_lt x y hlt, List.append_assoc]
      rfl
    · have hge : cmpL y x ≤ 0 := by have := cmpL_swap x y; omega
      have hall : ∀ z ∈ q ++ [y], cmpL z x ≤ 0 := fun z hz => by
        rcases List.mem_append.1 hz with hz | hz
        · exact cmpL_trans _ _ _ (sorted_last q y hs z hz) hge
        · simp at hz; subst hz; exact hge
      rw [insR_ge x _ hall, List.append_assoc (q ++ [y])]
      refine loopFix_inr ?_
      unfold slices_insertionSortCmpFunc_Lbyte_1de_l4
      dsimp only
      rw [condT' (by simp), hlen, hw, r1, r0, g1, g0]
      simp only [cond_true, Option.bind_some, n8]
      rw [comparec _ _ hx hyl, Option.bind_some, condF' (by simpa using hlt)]
      rfl
/-- Rows in order, one after another. -/
def sortR (l : List (List Int)) : List (List Int) := l.foldl (fun p x => insR x p) []
theorem fold_sorted : ∀ (l p : List (List Int)), SortedR p → SortedR (l.foldl (fun p x => insR x p) p)
  | [], p, h => h
  | x :: l, p, h => fold_sorted l _ (insR_sorted x p h)
theorem outer (N : Nat) : ∀ (l p : List (List Int)), SortedR p → p.length + l.length = N → N ≤ 1000 → 0 < p.length → (∀ r ∈ p, r.length ≤ 1000000) → (∀ r ∈ l, r.length ≤ 1000000) →
    loopFix slices_insertionSortCmpFunc_Lbyte_1de_l1 (((), 0, (N : Int), ((), ()), (p.length : Int)), rowsP (p ++ l)) = some ((), rowsP (l.foldl (fun p x => insR x p) p))
  | [], p, hs, hn, hN, h0, hp, hl => by
    refine loopFix_inr ?_
    unfold slices_insertionSortCmpFunc_Lbyte_1de_l1
    dsimp only
    rw [condF' (by simp at hn ⊢; omega), List.append_nil]
    rfl
  | x :: l, p, hs, hn, hN, h0, hp, hl => by
    have hx : x.length ≤ 1000000 := hl x (by simp)
    have hin := inner 0 (N : Int) (fun _ _ _ => trivial) (p.length : Int) p x l hs (by simp at hn; omega) hp hx
    have hs1 : slices_insertionSortCmpFunc_Lbyte_1de_l1 (((), 0, (N : Int), ((), ()), (p.length : Int)), rowsP (p ++ x :: l)) = some (.inl (((), 0, (N : Int), ((), ()), (((insR x p).length : Nat) : Int)), rowsP (insR x p ++ l))) := by
      unfold slices_insertionSortCmpFunc_Lbyte_1de_l1
      dsimp only
      rw [condT' (by simp at hn ⊢; omega), hin, Option.bind_some]
      dsimp only
      rw [wrap64 (by omega) (by simp at hn; omega), insR_len]
      rfl
    rw [loopFix_inl hs1, outer N l (insR x p) (insR_sorted x p hs) (by rw [insR_len]; simp at hn; omega) hN (by rw [insR_len]; omega) (fun r hr => (mem_insR x p r).1 hr |>.elim (fun e => e ▸ hx) (hp r)) fun r hr => hl r (by simp [hr])]
    rfl
theorem insertionc (R : List (List Int)) (h0 : 0 < R.length) (hN : R.length ≤ 1000) (hr : ∀ r ∈ R, r.length ≤ 1000000) : slices_insertionSortCmpFunc_Lbyte_1de 0 ((R.length : Nat) : Int) (rowsP R) = some ((), rowsP (sortR R)) := by
  unfold slices_insertionSortCmpFunc_Lbyte_1de
  match R, h0 with
  | x :: l, _ =>
    have := outer (x :: l).length l [x] ⟨fun z h => by simp at h, trivial⟩ (by simp; omega) hN (by simp) (fun r h => hr r (by simp at h; simp [h])) fun r h => hr r (by simp [h])
    have e : loopFix slices_insertionSortCmpFunc_Lbyte_1de_l1 (((), 0, (((x :: l).length : Nat) : Int), ((), ()), IntKind.i64.wrap (0 + 1)), rowsP (x :: l)) = _ := this
    rw [e]
    rfl
end Go.Px
