/-
What the evaluator's values say of the machine's.
-/
import Derived.Test.YtijjelcejpikiaaGreatDoorEvRes
import Derived.Laws.AppendOwn
import Derived.Below
set_option linter.unusedVariables false
set_option linter.unusedSimpArgs false
namespace Go.Ev
variable [Globs]
set_option linter.unusedSectionVars false

/-! ### What is sure of a computation with continuations -/
def Sure {A : Type} (m : C A) (Q : A → Prop) : Prop := ∀ (X : Type) (k : A → Option X) (r : X), m X k = some r → ∃ a, k a = some r ∧ Q a
namespace Sure
variable {A B : Type} {Q : A → Prop} {R : B → Prop}
theorem pure {a : A} (h : Q a) : Sure (C.pure a) Q := fun _ _ _ hr => ⟨a, hr, h⟩
theorem fail : Sure (C.fail : C A) Q := fun _ _ _ hr => by simp [C.fail] at hr
theorem bind {m : C A} {f : A → C B} (hm : Sure m Q) (hf : ∀ a, Q a → Sure (f a) R) : Sure (C.bind m f) R := fun X k r hr => by
  obtain ⟨a, ha, hq⟩ := hm X _ r hr
  exact hf a hq X k r ha
theorem lift {o : Option A} (h : ∀ a, o = some a → Q a) : Sure (C.lift o) Q := fun X k r hr => by
  cases o with
  | none => simp [C.lift] at hr
  | some a => exact ⟨a, hr, h a rfl⟩
theorem lift' {o : Option A} : Sure (C.lift o) (fun a => o = some a) := lift fun _ h => h
theorem bindL {o : Option A} {f : A → C B} (hf : ∀ a, o = some a → Sure (f a) R) : Sure (C.bind (C.lift o) f) R := bind lift' hf
theorem need {b : Bool} {m : C A} (h : b = true → Sure m Q) : Sure (C.need b m) Q := fun X k r hr => by
  cases b with
  | true => exact h rfl X k r hr
  | false => simp [C.need] at hr
theorem split {b : Bool} {f : Bool → C A} (h : Sure (f b) Q) : Sure (C.split b f) Q := fun X k r hr => by
  cases b with
  | true => exact h X k r hr
  | false => exact h X k r hr
theorem mono {m : C A} {Q' : A → Prop} (hm : Sure m Q) (h : ∀ a, Q a → Q' a) : Sure m Q' := fun X k r hr => by
  obtain ⟨a, ha, hq⟩ := hm X k r hr
  exact ⟨a, ha, h a hq⟩
theorem ite {c : Prop} [Decidable c] {m n : C A} (h : c → Sure m Q) (h' : ¬ c → Sure n Q) : Sure (if c then m else n) Q := by
  split
  · exact h ‹_›
  · exact h' ‹_›
theorem iteF {c : Prop} [Decidable c] {m : C A} (h : c → Sure m Q) : Sure (if c then m else C.fail) Q := ite h fun _ => fail
end Sure

/-! ### Cells -/
def OneC (v : Value) : Prop := v.oneCell' = true
def CellsAt (w : World) (b off : Nat) (vs : List Value) : Prop := ∀ j v, vs[j]? = some v → w.cell? ⟨b, off + j, none⟩ = some v
/-- The cells of v lie there, each one value. -/
structure ElemAt (w : World) (b off z : Nat) (v : Value) : Prop where
  size : v.cells.size = z
  one : ∀ u ∈ v.cells.toList, OneC u
  at_ : CellsAt w b off v.cells.toList
theorem CellsAt.frame {w w' : World} {b off : Nat} {vs : List Value} (h : CellsAt w b off vs) (hb : w'.heap[b]? = w.heap[b]?) : CellsAt w' b off vs := fun j v hv => by
  have := h j v hv
  simpa [World.cell?, hb] using this
theorem ElemAt.frame {w w' : World} {b off z : Nat} {v : Value} (h : ElemAt w b off z v) (hb : w'.heap[b]? = w.heap[b]?) : ElemAt w' b off z v := ⟨h.size, h.one, h.at_.frame hb⟩
theorem cells_one {v : Value} (h : OneC v) : v.cells = #[v] := by cases v <;> simp_all [OneC, Value.oneCell', Value.cells]
theorem cells_ne_agg {v : Value} (h : ∀ cs, v ≠ .agg cs) : v.cells = #[v] := by cases v <;> simp_all [Value.cells]

/-! ### Pure data read in memory -/
/-- x is what v reads as, by blocks of Fz alone. -/
inductive RD (Fz : Nat → Prop) (w : World) : PD → Value → Prop
  | bool (b : Bool) : RD Fz w (.bool b) (.bool b)
  | int (k : IntKind) (n : Int) : RD Fz w (.int k n) (.int k n)
  | str (s : ByteArray) : RD Fz w (.str s) (.string s)
  | opq (v : Value) : RD Fz w (.opq v) v
  | nilNums (k : IntKind) : RD Fz w (.nums k []) (.slice none 0 0)
  | nums (k : IntKind) (xs : List Int) (a : Addr) (cap : Nat) (hc : xs.length ≤ cap)
      (h : 0 < xs.length → a.spot = none ∧ Fz a.block ∧ CellsAt w a.block a.off (xs.map (Value.int k))) : RD Fz w (.nums k xs) (.slice (some a) xs.length cap)
  | nilSl (z : Nat) : RD Fz w (.sl z []) (.slice none 0 0)
  | sl (z : Nat) (xs : List PD) (a : Addr) (cap : Nat) (vf : Nat → Value) (hc : xs.length ≤ cap) (h : 0 < xs.length → a.spot = none ∧ Fz a.block)
      (he : ∀ i, i < xs.length → ElemAt w a.block (a.off + i * z) z (vf i)) (hr : ∀ i (h : i < xs.length), RD Fz w xs[i] (vf i)) : RD Fz w (.sl z xs) (.slice (some a) xs.length cap)
  | agg (xs : List PD) (vs : Array Value) (hs : vs.size = xs.length) (ho : ∀ u ∈ vs.toList, OneC u) (hr : ∀ i (h : i < xs.length), RD Fz w xs[i] (vs.getD i undef)) : RD Fz w (.agg xs) (.agg vs)
  | arr (k : IntKind) (m : Nat) (xs : List Int) (hm : xs.length = m) : RD Fz w (.arr k m xs) (.agg (xs.map (Value.int k)).toArray)
  | anyb (b : Bool) : RD Fz w .anyb (.bool b)

theorem RD.frame {Fz Fz' : Nat → Prop} {w w' : World} {x : PD} {v : Value} (h : RD Fz w x v) (hF : ∀ b, Fz b → Fz' b) (hw : ∀ b, Fz b → w'.heap[b]? = w.heap[b]?) : RD Fz' w' x v := by
  induction h with
  | bool b => exact .bool b
  | int k n => exact .int k n
  | str s => exact .str s
  | opq v => exact .opq v
  | nilNums k => exact .nilNums k
  | nilSl z => exact .nilSl z
  | nums k xs a cap hc h => exact .nums k xs a cap hc fun hp => ⟨(h hp).1, hF _ (h hp).2.1, (h hp).2.2.frame (hw _ (h hp).2.1)⟩
  | sl z xs a cap vf hc h he hr ih => exact .sl z xs a cap vf hc (fun hp => ⟨(h hp).1, hF _ (h hp).2⟩) (fun i hi => (he i hi).frame (hw _ (h (by omega)).2)) ih
  | agg xs vs hs ho hr ih => exact .agg xs vs hs ho ih
  | arr k m xs hm => exact .arr k m xs hm
  | anyb b => exact .anyb b
theorem RD.mono {Fz Fz' : Nat → Prop} {w : World} {x : PD} {v : Value} (h : RD Fz w x v) (hF : ∀ b, Fz b → Fz' b) : RD Fz' w x v := h.frame hF fun _ _ => rfl

section inv
variable {Fz : Nat → Prop} {w : World} {v : Value}
theorem RD.inv_bool {b : Bool} (h : RD Fz w (.bool b) v) : v = .bool b := by cases h; rfl
theorem RD.inv_anyb (h : RD Fz w .anyb v) : ∃ b, v = .bool b := by cases h; exact ⟨_, rfl⟩
theorem RD.inv_int {k : IntKind} {n : Int} (h : RD Fz w (.int k n) v) : v = .int k n := by cases h; rfl
theorem RD.inv_str {s : ByteArray} (h : RD Fz w (.str s) v) : v = .string s := by cases h; rfl
theorem RD.inv_opq {u : Value} (h : RD Fz w (.opq u) v) : v = u := by cases h; rfl
theorem RD.inv_arr {k : IntKind} {m : Nat} {xs : List Int} (h : RD Fz w (.arr k m xs) v) : xs.length = m ∧ v = .agg (xs.map (Value.int k)).toArray := by cases h; exact ⟨‹_›, rfl⟩
theorem RD.inv_agg {xs : List PD} (h : RD Fz w (.agg xs) v) : ∃ vs, v = .agg vs ∧ vs.size = xs.length ∧ (∀ u ∈ vs.toList, OneC u) ∧ ∀ i (h : i < xs.length), RD Fz w xs[i] (vs.getD i undef) := by
  cases h with
  | agg _ vs hs ho hr => exact ⟨vs, rfl, hs, ho, hr⟩
/-- A slice of integers, as it lies there. -/
theorem RD.inv_nums {k : IntKind} {xs : List Int} (h : RD Fz w (.nums k xs) v) : (xs = [] ∧ v = .slice none 0 0) ∨
    ∃ a cap, v = .slice (some a) xs.length cap ∧ xs.length ≤ cap ∧ (0 < xs.length → a.spot = none ∧ Fz a.block ∧ CellsAt w a.block a.off (xs.map (Value.int k))) := by
  cases h with
  | nilNums => exact .inl ⟨rfl, rfl⟩
  | nums _ _ a cap hc h => exact .inr ⟨a, cap, rfl, hc, h⟩
theorem RD.inv_sl {z : Nat} {xs : List PD} (h : RD Fz w (.sl z xs) v) : (xs = [] ∧ v = .slice none 0 0) ∨
    ∃ (a : Addr) (cap : Nat) (vf : Nat → Value), v = .slice (some a) xs.length cap ∧ xs.length ≤ cap ∧ (0 < xs.length → a.spot = none ∧ Fz a.block) ∧
      (∀ i, i < xs.length → ElemAt w a.block (a.off + i * z) z (vf i)) ∧ ∀ i (h : i < xs.length), RD Fz w xs[i] (vf i) := by
  cases h with
  | nilSl => exact .inl ⟨rfl, rfl⟩
  | sl _ _ a cap vf hc h he hr => exact .inr ⟨a, cap, vf, rfl, hc, h, he, hr⟩
end inv

/-! ### The accessors -/
section acc
variable {Fz : Nat → Prop} {w : World} {v : Value} {x : PD}
theorem RD.int? {k : IntKind} {n : Int} (h : RD Fz w x v) (hx : x.int? k = some n) : RD Fz w (.int k n) v ∧ v = .int k n := by
  cases x <;> simp [PD.int?] at hx
  obtain ⟨rfl, rfl⟩ := hx
  exact ⟨h, h.inv_int⟩
theorem RD.bool? {b : Bool} (h : RD Fz w x v) (hx : x.bool? = some b) : RD Fz w (.bool b) v ∧ v = .bool b := by
  cases x <;> simp [PD.bool?] at hx
  subst hx
  exact ⟨h, h.inv_bool⟩
theorem RD.str? {s : ByteArray} (h : RD Fz w x v) (hx : x.str? = some s) : RD Fz w (.str s) v ∧ v = .string s := by
  cases x <;> simp [PD.str?] at hx
  subst hx
  exact ⟨h, h.inv_str⟩
theorem RD.nums? {k : IntKind} {xs : List Int} (h : RD Fz w x v) (hx : x.nums? k = some xs) : RD Fz w (.nums k xs) v := by
  unfold PD.nums? at hx
  split at hx
  · split at hx
    · cases hx
      subst_vars
      exact h
    · cases hx
  · cases hx
    rw [h.inv_opq]
    exact .nilNums k
  · cases hx
theorem RD.sl? {z : Nat} {xs : List PD} (h : RD Fz w x v) (hx : x.sl? z = some xs) : RD Fz w (.sl z xs) v := by
  unfold PD.sl? at hx
  split at hx
  · split at hx
    · cases hx
      subst_vars
      exact h
    · cases hx
  · cases hx
    rw [h.inv_opq]
    exact .nilSl z
  · cases hx
theorem getD_lt {A : Type} (vs : Array A) (d : A) {i : Nat} (h : i < vs.size) : vs.getD i d = vs[i] := by simp [Array.getD, h]
/-- Cell j of what x is: it is there, one value, and reads as cell j of x. -/
theorem RD.cell? {j : Nat} {c : PD} (h : RD Fz w x v) (hx : x.cell? j = some c) : ∃ u, v.cells[j]? = some u ∧ OneC u ∧ RD Fz w c u := by
  cases x with
  | agg xs =>
    simp only [PD.cell?] at hx
    obtain ⟨vs, rfl, hs, ho, hr⟩ := h.inv_agg
    obtain ⟨hj, rfl⟩ := List.getElem?_eq_some_iff.1 hx
    refine ⟨vs[j]'(by omega), by simp [Value.cells, hs, hj], ho _ (by simp), ?_⟩
    have := hr j hj
    rwa [getD_lt vs undef (by omega)] at this
  | arr k m xs =>
    simp only [PD.cell?, Option.map_eq_some_iff] at hx
    obtain ⟨n, hn, rfl⟩ := hx
    obtain ⟨_, rfl⟩ := h.inv_arr
    exact ⟨.int k n, by simp [Value.cells, hn], rfl, .int k n⟩
  | opq u =>
    simp only [PD.cell?] at hx
    split at hx
    · rename_i hj
      cases hx
      obtain ⟨rfl, h1⟩ := hj
      cases h.inv_opq
      exact ⟨v, by rw [cells_one h1]; rfl, h1, h⟩
    · cases hx
  | bool b => simp [PD.cell?] at hx; obtain ⟨rfl, rfl⟩ := hx; cases h.inv_bool; exact ⟨_, rfl, rfl, h⟩
  | anyb => simp [PD.cell?] at hx; obtain ⟨rfl, rfl⟩ := hx; obtain ⟨b, rfl⟩ := h.inv_anyb; exact ⟨_, rfl, rfl, h⟩
  | int k n => simp [PD.cell?] at hx; obtain ⟨rfl, rfl⟩ := hx; cases h.inv_int; exact ⟨_, rfl, rfl, h⟩
  | str s => simp [PD.cell?] at hx; obtain ⟨rfl, rfl⟩ := hx; cases h.inv_str; exact ⟨_, rfl, rfl, h⟩
  | nums k xs => simp [PD.cell?] at hx; obtain ⟨rfl, rfl⟩ := hx; rcases h.inv_nums with ⟨_, rfl⟩ | ⟨a, cap, rfl, _⟩ <;> exact ⟨_, rfl, rfl, h⟩
  | sl z xs => simp [PD.cell?] at hx; obtain ⟨rfl, rfl⟩ := hx; rcases h.inv_sl with ⟨_, rfl⟩ | ⟨a, cap, vf, rfl, _⟩ <;> exact ⟨_, rfl, rfl, h⟩

/-- c is cell j of v's. -/
def CellOf (Fz : Nat → Prop) (w : World) (v : Value) (j : Nat) (c : PD) : Prop := ∃ u, v.cells[j]? = some u ∧ OneC u ∧ RD Fz w c u
theorem intAt_cell {k : IntKind} {j : Nat} {n : Int} (h : RD Fz w x v) (hx : x.intAt k j = some n) : CellOf Fz w v j (.int k n) := by
  unfold PD.intAt at hx
  split at hx
  · split at hx
    · subst_vars
      obtain ⟨_, rfl⟩ := h.inv_arr
      exact ⟨.int _ n, by simp [Value.cells, hx], rfl, .int _ n⟩
    · cases hx
  · obtain ⟨c, hc, hn⟩ := Option.bind_eq_some_iff.1 hx
    obtain ⟨u, hu, h1, hr⟩ := h.cell? hc
    exact ⟨u, hu, h1, (hr.int? hn).1⟩
theorem boolAt_cell {j : Nat} {b : Bool} (h : RD Fz w x v) (hx : x.boolAt j = some b) : CellOf Fz w v j (.bool b) := by
  obtain ⟨c, hc, hn⟩ := Option.bind_eq_some_iff.1 hx
  obtain ⟨u, hu, h1, hr⟩ := h.cell? hc
  exact ⟨u, hu, h1, (hr.bool? hn).1⟩
theorem strAt_cell {j : Nat} {s : ByteArray} (h : RD Fz w x v) (hx : x.strAt j = some s) : CellOf Fz w v j (.str s) := by
  obtain ⟨c, hc, hn⟩ := Option.bind_eq_some_iff.1 hx
  obtain ⟨u, hu, h1, hr⟩ := h.cell? hc
  exact ⟨u, hu, h1, (hr.str? hn).1⟩
theorem numsAt_cell {k : IntKind} {j : Nat} {xs : List Int} (h : RD Fz w x v) (hx : x.numsAt k j = some xs) : CellOf Fz w v j (.nums k xs) := by
  obtain ⟨c, hc, hn⟩ := Option.bind_eq_some_iff.1 hx
  obtain ⟨u, hu, h1, hr⟩ := h.cell? hc
  exact ⟨u, hu, h1, hr.nums? hn⟩
theorem slAt_cell {z j : Nat} {xs : List PD} (h : RD Fz w x v) (hx : x.slAt z j = some xs) : CellOf Fz w v j (.sl z xs) := by
  obtain ⟨c, hc, hn⟩ := Option.bind_eq_some_iff.1 hx
  obtain ⟨u, hu, h1, hr⟩ := h.cell? hc
  exact ⟨u, hu, h1, hr.sl? hn⟩
end acc

theorem pullAt_sure (t : CT) (x : PD) (j : Nat) : Sure (pullAt t x j) fun c => ∀ Fz w v, RD Fz w x v → CellOf Fz w v j c := by
  cases t with
  | int k => exact .bindL fun n hn => .pure fun Fz w v h => intAt_cell h hn
  | bool => exact .bindL fun n hn => .pure fun Fz w v h => boolAt_cell h hn
  | str => exact .bindL fun n hn => .pure fun Fz w v h => strAt_cell h hn
  | nums k => exact .bindL fun n hn => .pure fun Fz w v h => numsAt_cell h hn
  | sl z => exact .bindL fun n hn => .pure fun Fz w v h => slAt_cell h hn
  | any => exact .lift fun c hc Fz w v h => h.cell? hc
theorem pullsAt_sure : ∀ (ts : List CT) (x : PD) (j : Nat), Sure (pullsAt ts x j) fun cs => cs.length = ts.length ∧ ∀ Fz w v, RD Fz w x v → ∀ i (h : i < cs.length), CellOf Fz w v (j + i) cs[i]
  | [], x, j => .pure ⟨rfl, fun _ _ _ _ i h => absurd h (by simp)⟩
  | t :: ts, x, j => by
    refine .bind (pullAt_sure t x j) fun c hc => .bind (pullsAt_sure ts x (j + 1)) fun cs hcs => .pure ⟨by simp [hcs.1], fun Fz w v h i hi => ?_⟩
    cases i with
    | zero => exact hc Fz w v h
    | succ i =>
      have := hcs.2 Fz w v h i (by simpa using hi)
      rw [show j + (i + 1) = j + 1 + i by omega]
      exact this
/-- The value of cells off to off + n of v. -/
def partOf (agg : Bool) (v : Value) (off n : Nat) : Value := if agg then .agg (v.cells.extract off (off + n)) else v.cells.getD off undef
theorem agg_of_cells {Fz : Nat → Prop} {w : World} {v : Value} {off : Nat} {cs : List PD} (h : ∀ i (hi : i < cs.length), CellOf Fz w v (off + i) cs[i]) (hle : cs.length = 0 → True) :
    RD Fz w (.agg cs) (.agg (v.cells.extract off (off + cs.length))) ∧ (cs.length = 0 ∨ off + cs.length ≤ v.cells.size) := by
  have hsz : cs.length = 0 ∨ off + cs.length ≤ v.cells.size := by
    by_cases h0 : cs.length = 0
    · exact .inl h0
    · obtain ⟨u, hu, _⟩ := h (cs.length - 1) (by omega)
      have := (Array.getElem?_eq_some_iff.1 hu).1
      exact .inr (by omega)
  refine ⟨.agg _ _ ?_ ?_ ?_, hsz⟩
  · simp; omega
  · intro u hu
    obtain ⟨i, hi, he⟩ := List.getElem_of_mem hu
    simp at hi
    obtain ⟨u', hu', h1, _⟩ := h i (by omega)
    have : u' = u := by
      rw [← he]
      have := (Array.getElem?_eq_some_iff.1 hu').2
      simp [this]
    exact this ▸ h1
  · intro i hi
    obtain ⟨u, hu, h1, hr⟩ := h i hi
    have hlt := (Array.getElem?_eq_some_iff.1 hu).1
    have : (v.cells.extract off (off + cs.length)).getD i undef = u := by
      rw [getD_lt _ _ (by simp; omega)]
      have := (Array.getElem?_eq_some_iff.1 hu).2
      simp [this]
    rw [this]
    exact hr
end Go.Ev
