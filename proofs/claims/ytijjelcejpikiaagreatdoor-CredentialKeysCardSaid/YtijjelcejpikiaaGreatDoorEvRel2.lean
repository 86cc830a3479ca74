/-
What slots and objects say of the machine's values and memory.
-/
import Derived.Test.YtijjelcejpikiaaGreatDoorEvRel
set_option linter.unusedVariables false
set_option linter.unusedSimpArgs false
namespace Go.Ev
variable [Globs]
set_option linter.unusedSectionVars false

/-- y is the part of v at off that a type t takes. -/
def PartOf (P : Program) (t : TypeId) (Fz : Nat → Prop) (w : World) (v : Value) (off : Nat) (y : PD) : Prop :=
  (aggT P t = true ∧ 0 < P.cellsOf t ∧ off + P.cellsOf t ≤ v.cells.size ∧ RD Fz w y (.agg (v.cells.extract off (off + P.cellsOf t)))) ∨
  (aggT P t = false ∧ scalT P t = true ∧ CellOf Fz w v off y)
theorem sub_sure (P : Program) (x : PD) (off : Nat) (t : TypeId) : Sure (sub P x off t) fun y => ∀ Fz w v, RD Fz w x v → PartOf P t Fz w v off y := by
  unfold sub
  split
  · rename_i ha
    split
    · rename_i k m hk
      refine .bindL fun xs hxs => .pure fun Fz w v h => .inl ?_
      split at hxs
      · split at hxs
        · rename_i hh
          cases hxs
          obtain ⟨e1, e2, hm, hp⟩ := hh
          rw [e1, e2] at h
          obtain ⟨hl, rfl⟩ := h.inv_arr
          rw [hm]
          refine ⟨ha, hp, by simp [Value.cells]; omega, ?_⟩
          have : Array.extract (Value.cells (.agg (xs.map (Value.int k)).toArray)) 0 (0 + m) = (xs.map (Value.int k)).toArray := by
            apply Array.ext'
            simp only [Value.cells, List.extract_toArray, List.extract_eq_take_drop, Nat.zero_add, Nat.sub_zero, List.drop_zero]
            exact List.take_of_length_le (by simp; omega)
          rw [this]
          exact .arr _ _ _ hl
        · cases hxs
      · cases hxs
    · refine .iteF fun hl => .bind (pullsAt_sure _ x off) fun cs hcs => .pure fun Fz w v h => .inl ?_
      have := agg_of_cells (Fz := Fz) (w := w) (v := v) (off := off) (cs := cs) (fun i hi => hcs.2 Fz w v h i hi) (fun _ => trivial)
      rw [hcs.1, hl.1] at this
      exact ⟨ha, hl.2, this.2.resolve_left (by omega), this.1⟩
  · rename_i ha
    refine .iteF fun hs => (pullAt_sure _ x off).mono fun c hc Fz w v h => .inr ⟨by simpa using ha, hs, hc Fz w v h⟩

/-! ### Slots -/
inductive V (N : Nat → Prop) (γ : Nat → Value) (Fz : Nat → Prop) (w : World) : D → Value → Prop
  | pd (x : PD) (v : Value) (h : RD Fz w x v) : V N γ Fz w (.pd x) v
  | agg (ds : List D) (vs : Array Value) (hs : vs.size = ds.length) (ho : ∀ u ∈ vs.toList, OneC u) (hv : ∀ i (h : i < ds.length), V N γ Fz w ds[i] (vs.getD i undef)) : V N γ Fz w (.agg ds) (.agg vs)
  | tup (ds : List D) (vs : Array Value) (hs : vs.size = ds.length) (hv : ∀ i (h : i < ds.length), V N γ Fz w ds[i] (vs.getD i undef)) : V N γ Fz w (.tup ds) (.tuple vs)
  | ptr (o off b : Nat) (hn : N o) (hg : γ o = .pointer (some ⟨b, 0, none⟩)) : V N γ Fz w (.ptr o off) (.pointer (some ⟨b, off, none⟩))
  | ref (o : Nat) (hn : N o) (h1 : OneC (γ o)) : V N γ Fz w (.ref o) (γ o)
  | eptr (o z i off b n c : Nat) (hn : N o) (hg : γ o = .slice (some ⟨b, 0, none⟩) n c) : V N γ Fz w (.eptr o z i off) (.pointer (some ⟨b, i * z + off, none⟩))
  | rptr (x : PD) (off b base : Nat) (u : Value) (h : RD Fz w x u) (hb : Fz b) (hc : CellsAt w b base u.cells.toList) : V N γ Fz w (.rptr x off) (.pointer (some ⟨b, base + off, none⟩))
  | asl (o lo hi b : Nat) (a : Addr) (cap : Nat) (hn : N o) (hg : γ o = .pointer (some ⟨b, 0, none⟩)) (hl : lo ≤ hi) (hc : hi - lo ≤ cap) (ha : lo < hi → a = ⟨b, lo, none⟩) :
      V N γ Fz w (.asl o lo hi) (.slice (some a) (hi - lo) cap)
  | clo (f : FuncId) (first caps : List D) (vf vc : Array Value) (hf : vf.size = first.length) (hc : vc.size = caps.length)
      (h1 : ∀ i (h : i < first.length), V N γ Fz w first[i] (vf.getD i undef)) (h2 : ∀ i (h : i < caps.length), V N γ Fz w caps[i] (vc.getD i undef)) :
      V N γ Fz w (.clo f first caps) (.func (.func f) vf vc)
  | ifc (t : TypeId) (d : D) (u : Value) (h : V N γ Fz w d u) : V N γ Fz w (.ifc t [d]) (.iface t u)
  | junk (v : Value) : V N γ Fz w .junk v

theorem V.frame {N N' : Nat → Prop} {γ γ' : Nat → Value} {Fz Fz' : Nat → Prop} {w w' : World} {d : D} {v : Value} (h : V N γ Fz w d v)
    (hN : ∀ o, N o → N' o ∧ γ' o = γ o) (hF : ∀ b, Fz b → Fz' b) (hw : ∀ b, Fz b → w'.heap[b]? = w.heap[b]?) : V N' γ' Fz' w' d v := by
  induction h with
  | pd x v h => exact .pd x v (h.frame hF hw)
  | agg ds vs hs ho hv ih => exact .agg ds vs hs ho ih
  | tup ds vs hs hv ih => exact .tup ds vs hs ih
  | ptr o off b hn hg => exact .ptr o off b (hN o hn).1 ((hN o hn).2.trans hg)
  | ref o hn h1 => rw [← (hN o hn).2] at h1 ⊢; exact .ref o (hN o hn).1 h1
  | eptr o z i off b n c hn hg => exact .eptr o z i off b n c (hN o hn).1 ((hN o hn).2.trans hg)
  | rptr x off b base u h hb hc => exact .rptr x off b base u (h.frame hF hw) (hF b hb) (hc.frame (hw b hb))
  | asl o lo hi b a cap hn hg hl hc ha => exact .asl o lo hi b a cap (hN o hn).1 ((hN o hn).2.trans hg) hl hc ha
  | clo f first caps vf vc hf hc h1 h2 ih1 ih2 => exact .clo f first caps vf vc hf hc ih1 ih2
  | ifc t d u h ih => exact .ifc t d u ih
  | junk v => exact .junk v

section inv
variable {N : Nat → Prop} {γ : Nat → Value} {Fz : Nat → Prop} {w : World} {v : Value}
theorem V.inv_pd {x : PD} (h : V N γ Fz w (.pd x) v) : RD Fz w x v := by cases h; assumption
theorem V.inv_agg {ds : List D} (h : V N γ Fz w (.agg ds) v) : ∃ vs : Array Value, v = .agg vs ∧ vs.size = ds.length ∧ (∀ u ∈ vs.toList, OneC u) ∧ ∀ i (h : i < ds.length), V N γ Fz w ds[i] (vs.getD i undef) := by
  cases h with | agg _ vs hs ho hv => exact ⟨vs, rfl, hs, ho, hv⟩
theorem V.inv_tup {ds : List D} (h : V N γ Fz w (.tup ds) v) : ∃ vs : Array Value, v = .tuple vs ∧ vs.size = ds.length ∧ ∀ i (h : i < ds.length), V N γ Fz w ds[i] (vs.getD i undef) := by
  cases h with | tup _ vs hs hv => exact ⟨vs, rfl, hs, hv⟩
theorem V.inv_ptr {o off : Nat} (h : V N γ Fz w (.ptr o off) v) : ∃ b, N o ∧ γ o = .pointer (some ⟨b, 0, none⟩) ∧ v = .pointer (some ⟨b, off, none⟩) := by
  cases h with | ptr _ _ b hn hg => exact ⟨b, hn, hg, rfl⟩
theorem V.inv_ref {o : Nat} (h : V N γ Fz w (.ref o) v) : N o ∧ v = γ o ∧ OneC v := by
  cases h with | ref _ hn h1 => exact ⟨hn, rfl, h1⟩
theorem V.inv_eptr {o z i off : Nat} (h : V N γ Fz w (.eptr o z i off) v) : ∃ b n c, N o ∧ γ o = .slice (some ⟨b, 0, none⟩) n c ∧ v = .pointer (some ⟨b, i * z + off, none⟩) := by
  cases h with | eptr _ _ _ _ b n c hn hg => exact ⟨b, n, c, hn, hg, rfl⟩
theorem V.inv_rptr {x : PD} {off : Nat} (h : V N γ Fz w (.rptr x off) v) : ∃ b base u, RD Fz w x u ∧ Fz b ∧ CellsAt w b base u.cells.toList ∧ v = .pointer (some ⟨b, base + off, none⟩) := by
  cases h with | rptr _ _ b base u h hb hc => exact ⟨b, base, u, h, hb, hc, rfl⟩
theorem V.inv_asl {o lo hi : Nat} (h : V N γ Fz w (.asl o lo hi) v) : ∃ b a cap, N o ∧ γ o = .pointer (some ⟨b, 0, none⟩) ∧ lo ≤ hi ∧ hi - lo ≤ cap ∧ (lo < hi → a = ⟨b, lo, none⟩) ∧ v = .slice (some a) (hi - lo) cap := by
  cases h with | asl _ _ _ b a cap hn hg hl hc ha => exact ⟨b, a, cap, hn, hg, hl, hc, ha, rfl⟩
theorem V.inv_ifc {t : TypeId} {ds : List D} (h : V N γ Fz w (.ifc t ds) v) : ∃ d u, ds = [d] ∧ v = .iface t u ∧ V N γ Fz w d u := by
  cases h with | ifc _ d u h => exact ⟨d, u, rfl, rfl, h⟩
theorem V.inv_clo {f : FuncId} {first caps : List D} (h : V N γ Fz w (.clo f first caps) v) : ∃ vf vc : Array Value, v = .func (.func f) vf vc ∧ vf.size = first.length ∧ vc.size = caps.length ∧
    (∀ i (h : i < first.length), V N γ Fz w first[i] (vf.getD i undef)) ∧ ∀ i (h : i < caps.length), V N γ Fz w caps[i] (vc.getD i undef) := by
  cases h with | clo _ _ _ vf vc hf hc h1 h2 => exact ⟨vf, vc, rfl, hf, hc, h1, h2⟩
end inv

/-- The constants of the text. -/
theorem konPD_RD {Fz : Nat → Prop} {w : World} (c : Value) : RD Fz w (konPD c) c := by
  cases c <;> first | exact .bool _ | exact .int _ _ | exact .str _ | exact .opq _
theorem kon_V {N : Nat → Prop} {γ : Nat → Value} {Fz : Nat → Prop} {w : World} (c : Value) : V N γ Fz w (kon c) c := by
  cases c <;> first
    | exact .junk _
    | (refine .pd _ _ ?_; exact konPD_RD _)
    | skip
  rename_i cs
  simp only [kon]
  split
  case isFalse => exact .junk _
  rename_i hc
  refine .pd _ _ (.agg _ _ (by simp) ?_ ?_)
  · intro u hu
    have := List.all_eq_true.1 hc u (by simpa [Value.cells] using hu)
    exact this
  · intro i hi
    simp at hi
    simp only [List.getElem_map, Array.getElem_toList]
    rw [getD_lt _ _ (by simpa using hi)]
    exact konPD_RD _

theorem one_slice (a : Option Addr) (n c : Nat) : OneC (.slice a n c) := rfl
theorem one_ptr (a : Option Addr) : OneC (.pointer a) := rfl

/-- The cells that a value comes to. -/
theorem cells_sure {N : Nat → Prop} {γ : Nat → Value} {Fz : Nat → Prop} {w : World} {d : D} {ds : List D} {v : Value} (hd : d.cells = some ds) (h : V N γ Fz w d v) :
    v.cells.size = ds.length ∧ (∀ u ∈ v.cells.toList, OneC u) ∧ ∀ i (hi : i < ds.length), V N γ Fz w ds[i] (v.cells.getD i undef) := by
  have single : OneC v → some [d] = some ds → v.cells.size = ds.length ∧ (∀ u ∈ v.cells.toList, OneC u) ∧ ∀ i (hi : i < ds.length), V N γ Fz w ds[i] (v.cells.getD i undef) := by
    intro h1 he
    cases he
    rw [cells_one h1]
    refine ⟨rfl, by simpa using h1, fun i hi => ?_⟩
    obtain rfl : i = 0 := by simpa using hi
    exact h
  cases d with
  | agg es =>
    simp only [D.cells, Option.some.injEq] at hd
    subst hd
    obtain ⟨vs, rfl, hs, ho, hv⟩ := h.inv_agg
    exact ⟨hs, ho, hv⟩
  | tup es => simp [D.cells] at hd
  | junk => simp [D.cells] at hd
  | ptr o off => obtain ⟨b, _, _, rfl⟩ := h.inv_ptr; exact single rfl hd
  | ref o => exact single h.inv_ref.2.2 hd
  | eptr o z i off => obtain ⟨b, n, c, _, _, rfl⟩ := h.inv_eptr; exact single rfl hd
  | rptr x off => obtain ⟨b, base, u, _, _, _, rfl⟩ := h.inv_rptr; exact single rfl hd
  | asl o lo hi => obtain ⟨b, a, cap, _, _, _, _, _, rfl⟩ := h.inv_asl; exact single rfl hd
  | clo f a b => obtain ⟨vf, vc, rfl, _⟩ := h.inv_clo; exact single rfl hd
  | ifc t ds => obtain ⟨d, u, rfl, rfl, _⟩ := h.inv_ifc; exact single rfl hd
  | pd x =>
    have hr := h.inv_pd
    cases x with
    | agg xs =>
      simp only [D.cells, Option.some.injEq] at hd
      subst hd
      obtain ⟨vs, rfl, hs, ho, hv⟩ := hr.inv_agg
      refine ⟨by simpa [Value.cells] using hs, ho, fun i hi => ?_⟩
      simp only [List.getElem_map]
      exact .pd _ _ (hv i (by simpa using hi))
    | arr k m xs => simp [D.cells] at hd
    | opq u =>
      simp only [D.cells] at hd
      split at hd
      · cases hr.inv_opq
        exact single ‹_› hd
      · cases hd
    | bool b => cases hr.inv_bool; exact single rfl hd
    | anyb => obtain ⟨b, rfl⟩ := hr.inv_anyb; exact single rfl hd
    | int k n => cases hr.inv_int; exact single rfl hd
    | str s => cases hr.inv_str; exact single rfl hd
    | nums k xs => rcases hr.inv_nums with ⟨_, rfl⟩ | ⟨a, cap, rfl, _⟩ <;> exact single rfl hd
    | sl z xs => rcases hr.inv_sl with ⟨_, rfl⟩ | ⟨a, cap, vf, rfl, _⟩ <;> exact single rfl hd

theorem allPd_some : ∀ {ds : List D} {xs : List PD}, D.allPd ds = some xs → ds = xs.map D.pd
  | [], xs, h => by cases h; rfl
  | .pd x :: ds, xs, h => by
    simp only [D.allPd, Option.map_eq_some_iff] at h
    obtain ⟨ys, hy, rfl⟩ := h
    rw [allPd_some hy]
    rfl
  | .agg _ :: _, _, h | .tup _ :: _, _, h | .ptr _ _ :: _, _, h | .ref _ :: _, _, h | .eptr _ _ _ _ :: _, _, h | .rptr _ _ :: _, _, h | .asl _ _ _ :: _, _, h | .clo _ _ _ :: _, _, h | .ifc _ _ :: _, _, h | .junk :: _, _, h => by cases h
/-- A struct's value out of its cells. -/
theorem mkAgg_V {N : Nat → Prop} {γ : Nat → Value} {Fz : Nat → Prop} {w : World} {ds : List D} {vs : Array Value} (hs : vs.size = ds.length) (ho : ∀ u ∈ vs.toList, OneC u)
    (hv : ∀ i (h : i < ds.length), V N γ Fz w ds[i] (vs.getD i undef)) : V N γ Fz w (D.mkAgg ds) (.agg vs) := by
  unfold D.mkAgg
  split
  · rename_i xs hx
    have := allPd_some hx
    subst this
    refine .pd _ _ (.agg _ _ (by simpa using hs) ho fun i hi => ?_)
    have := hv i (by simpa using hi)
    simp only [List.getElem_map] at this
    exact this.inv_pd
  · exact .agg _ _ hs ho hv

/-! ### Rows and objects -/
/-- The raw cells of a slice's row: elements of z cells each. -/
def RowR (Fz : Nat → Prop) (w : World) (z : Nat) : PD → List Value → Nat → Prop
  | .nums k xs, cs, n => z = 1 ∧ n = xs.length ∧ cs = xs.map (Value.int k)
  | .sl z' xs, cs, n => z' = z ∧ n = xs.length ∧ ∃ vs : List Value, vs.length = n ∧ cs = vs.flatMap (·.cells.toList) ∧
      (∀ v ∈ vs, v.cells.size = z ∧ ∀ u ∈ v.cells.toList, OneC u) ∧ ∀ i (h : i < xs.length), RD Fz w xs[i] (vs.getD i undef)
  | _, _, _ => False
/-- A row that the call may write and make grow. -/
structure OwnRow (w : World) (e : TypeId) (z : Nat) (v : Value) (n : Nat) (cs : List Value) : Prop where
  len : cs.length = n * z
  pos : 0 < z
  row : (v = .slice none 0 0 ∧ n = 0) ∨ ∃ b cap cur fz, v = .slice (some ⟨b, 0, none⟩) n cap ∧ w.heap[b]? = some (.cells cur e fz) ∧ (fz.2 ≤ fz.1 ∨ (cur.size ≤ fz.1 ∧ z = 1)) ∧
    n ≤ cap ∧ cap ≤ maxLen ∧ cur.size = cap * z ∧ cur.toList.take (n * z) = cs

def ObR (N : Nat → Prop) (γ : Nat → Value) (Fz : Nat → Prop) (w : World) (g : Value) : Ob → Prop
  | .cells ds => ∃ b cs E, g = .pointer (some ⟨b, 0, none⟩) ∧ w.heap[b]? = some (.cells cs E (0, 0)) ∧ cs.size = ds.length ∧ (∀ u ∈ cs.toList, OneC u) ∧
      ∀ i (h : i < ds.length), V N γ Fz w ds[i] (cs.getD i undef)
  | .ints k m xs => ∃ b E, g = .pointer (some ⟨b, 0, none⟩) ∧ w.heap[b]? = some (.cells (xs.map (Value.int k)).toArray E (0, 0)) ∧ xs.length = m
  | .flags m bs => ∃ b E, g = .pointer (some ⟨b, 0, none⟩) ∧ w.heap[b]? = some (.cells (bs.map Value.bool).toArray E (0, 0)) ∧ bs.length = m
  | .arr z e x => ∃ n cs, RowR Fz w z x cs n ∧ OwnRow w e z g n cs
  | .froz x => RD Fz w x g ∧ OneC g
  | .dead => True
def Ob.own : Ob → Bool
  | .cells _ | .ints _ _ _ | .flags _ _ | .arr _ _ _ => true
  | _ => false
def Ob.live : Ob → Bool
  | .dead => false
  | _ => true
def blkOf : Value → Option Nat
  | .pointer (some a) => some a.block
  | .slice (some a) _ _ => some a.block
  | _ => none

theorem RowR.frame {Fz Fz' : Nat → Prop} {w w' : World} {z : Nat} {x : PD} {cs : List Value} {n : Nat} (h : RowR Fz w z x cs n) (hF : ∀ b, Fz b → Fz' b) (hw : ∀ b, Fz b → w'.heap[b]? = w.heap[b]?) : RowR Fz' w' z x cs n := by
  cases x with
  | nums k xs => exact h
  | sl z' xs =>
    obtain ⟨h1, h2, vs, h3, h4, h5, h6⟩ := h
    exact ⟨h1, h2, vs, h3, h4, h5, fun i hi => (h6 i hi).frame hF hw⟩
  | _ => exact h
theorem OwnRow.frame {w w' : World} {e : TypeId} {z : Nat} {v : Value} {n : Nat} {cs : List Value} (h : OwnRow w e z v n cs) (hw : ∀ b, blkOf v = some b → w'.heap[b]? = w.heap[b]?) : OwnRow w' e z v n cs := by
  refine ⟨h.len, h.pos, ?_⟩
  rcases h.row with h | ⟨b, cap, cur, fz, rfl, hb, rest⟩
  · exact .inl h
  · exact .inr ⟨b, cap, cur, fz, rfl, by rw [hw b rfl]; exact hb, rest⟩
theorem ObR.frame {N N' : Nat → Prop} {γ γ' : Nat → Value} {Fz Fz' : Nat → Prop} {w w' : World} {g : Value} {ob : Ob} (h : ObR N γ Fz w g ob)
    (hN : ∀ o, N o → N' o ∧ γ' o = γ o) (hF : ∀ b, Fz b → Fz' b) (hw : ∀ b, Fz b → w'.heap[b]? = w.heap[b]?) (hb : ob.own = true → ∀ b, blkOf g = some b → w'.heap[b]? = w.heap[b]?) : ObR N' γ' Fz' w' g ob := by
  cases ob with
  | cells ds =>
    obtain ⟨b, cs, E, rfl, h1, h2, h3, h4⟩ := h
    exact ⟨b, cs, E, rfl, by rw [hb rfl b rfl]; exact h1, h2, h3, fun i hi => (h4 i hi).frame hN hF hw⟩
  | ints k m xs =>
    obtain ⟨b, E, rfl, h1, h2⟩ := h
    exact ⟨b, E, rfl, by rw [hb rfl b rfl]; exact h1, h2⟩
  | flags m bs =>
    obtain ⟨b, E, rfl, h1, h2⟩ := h
    exact ⟨b, E, rfl, by rw [hb rfl b rfl]; exact h1, h2⟩
  | arr z e x =>
    obtain ⟨n, cs, h1, h2⟩ := h
    exact ⟨n, cs, h1.frame hF hw, h2.frame (hb rfl)⟩
  | froz x => exact ⟨h.1.frame hF hw, h.2⟩
  | dead => trivial

/-! ### The world of a call -/
/-- Since the call began, at w0, nothing else was written than the blocks W0 and new ones. -/
structure Frm (w0 : World) (W0 : Nat → Prop) (w : World) : Prop where
  os : w.os = w0.os
  tape : w.tape = w0.tape
  output : w.output = w0.output
  size : w0.heap.size ≤ w.heap.size
  block : ∀ b, b < w0.heap.size → ¬ W0 b → w.heap[b]? = w0.heap[b]?
/-- The package variables hold what the table says. -/
def GlobOk (Fz : Nat → Prop) (w : World) : Prop := ∀ g x, Globs.tab g = some x → ∃ u, RD Fz w x u ∧ Fz g ∧ CellsAt w g 0 u.cells.toList
theorem GlobOk.frame {Fz Fz' : Nat → Prop} {w w' : World} (h : GlobOk Fz w) (hF : ∀ b, Fz b → Fz' b) (hw : ∀ b, Fz b → w'.heap[b]? = w.heap[b]?) : GlobOk Fz' w' := fun g x hg => by
  obtain ⟨u, h1, h2, h3⟩ := h g x hg
  exact ⟨u, h1.frame hF hw, hF g h2, h3.frame (hw g h2)⟩
/-- All that holds in the midst of a call. H: the objects; N: the names in use; γ: what each name is in the machine; Fz: the blocks that nobody writes any more. -/
structure Rel (w0 : World) (F0 W0 N : Nat → Prop) (γ : Nat → Value) (Fz : Nat → Prop) (H : Nat → Option Ob) (w : World) : Prop where
  frm : Frm w0 W0 w
  fz0 : ∀ b, F0 b → Fz b
  fzlt : ∀ b, Fz b → b < w.heap.size
  fznew : ∀ b, Fz b → F0 b ∨ w0.heap.size ≤ b ∨ W0 b
  named : ∀ o ob, H o = some ob → ob.live = true → N o
  obs : ∀ o ob, H o = some ob → ObR N γ Fz w (γ o) ob
  apart : ∀ o ob, H o = some ob → ob.own = true → ∀ b, blkOf (γ o) = some b → ¬ Fz b ∧ (w0.heap.size ≤ b ∨ W0 b) ∧
    ∀ o' ob', H o' = some ob' → ob'.own = true → blkOf (γ o') = some b → o' = o
  hasob : ∀ o, N o → ∃ ob, H o = some ob
  glob : GlobOk Fz w
/-- What a step leaves in place. -/
structure Ext (fr : Nat) (N : Nat → Prop) (γ : Nat → Value) (Fz : Nat → Prop) (w : World) (N' : Nat → Prop) (γ' : Nat → Value) (Fz' : Nat → Prop) (w' : World) : Prop where
  names : ∀ o, N o → N' o ∧ γ' o = γ o
  new : ∀ o, N' o → N o ∨ (fr ≤ o ∧ o < fr + 8)
  fz : ∀ b, Fz b → Fz' b
  heap : ∀ b, Fz b → w'.heap[b]? = w.heap[b]?
theorem Ext.refl (fr : Nat) (N : Nat → Prop) (γ : Nat → Value) (Fz : Nat → Prop) (w : World) : Ext fr N γ Fz w N γ Fz w := ⟨fun _ h => ⟨h, rfl⟩, fun _ h => .inl h, fun _ h => h, fun _ _ => rfl⟩
theorem V.ext {fr : Nat} {N N' : Nat → Prop} {γ γ' : Nat → Value} {Fz Fz' : Nat → Prop} {w w' : World} {d : D} {v : Value} (h : V N γ Fz w d v) (e : Ext fr N γ Fz w N' γ' Fz' w') : V N' γ' Fz' w' d v := h.frame e.names e.fz e.heap
/-- What becomes of objects. -/
def applyU (H : Nat → Option Ob) : Dl → Nat → Option Ob
  | [] => H
  | (o, ob) :: l => applyU (fun i => if i = o then some ob else H i) l
end Go.Ev
