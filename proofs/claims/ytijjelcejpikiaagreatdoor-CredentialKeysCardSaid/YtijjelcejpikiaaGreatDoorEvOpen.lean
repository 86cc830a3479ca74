/-
What comes in: an argument that reads as data is pure data, well formed by its type; a law's call.
-/
import Derived.Test.YtijjelcejpikiaaGreatDoorEvPat
import Derived.Carry
import Derived.Deep.Slices
import Derived.ChangeOld
set_option linter.unusedVariables false
set_option linter.unusedSimpArgs false
namespace Go.Ev
variable [Globs]
set_option linter.unusedSectionVars false
open Go.ChangeShapes Go.WideShapes Go.RowKit
/-- An element as a value: a struct's cells are one value. -/
def ElemWf (agg : Bool) (W : List PD → Prop) (y : PD) : Prop := if agg = true then ∃ xs, y = .agg xs ∧ W xs else W [y]
/-- The cells of a value of type t. -/
def WfV (P : Program) : Nat → TypeId → List PD → Prop
  | 0, _, _ => False
  | n + 1, t, xs =>
    match P.underlying t with
    | some (.int k) => ∃ m, xs = [.int k m] ∧ (Lit.int k m).wf = true
    | some .bool => ∃ b, xs = [.bool b]
    | some .string => ∃ s : ByteArray, xs = [.str s] ∧ s.size ≤ maxLen
    | some (.slice e) =>
      match P.underlying e with
      | some (.int k) => ∃ zs : List Int, xs = [.nums k zs] ∧ zs.length ≤ maxLen ∧ ∀ m ∈ zs, (Lit.int k m).wf = true
      | _ => ∃ ys : List PD, xs = [.sl (P.cellsOf e) ys] ∧ ys.length ≤ maxLen ∧ ∀ y ∈ ys, ElemWf (aggT P e) (WfV P n e) y
    | some (.struct fs) => xs.length = P.cellsOf t ∧ ∀ f ∈ fs.toList, WfV P n f.type ((xs.drop f.offset).take (P.cellsOf f.type))
    | _ => ∃ u, xs = [.opq u]
def tilesT (P : Program) : Nat → List Field → Option Nat
  | n, [] => some n
  | n, f :: fs => if f.offset = n then tilesT P (n + P.cellsOf f.type) fs else none
/-- A type whose values can be opened. -/
def openT (P : Program) : Nat → TypeId → Bool
  | 0, _ => false
  | n + 1, t =>
    match P.underlying t with
    | some (.int _) | some .bool | some .string => decide (P.cellsOf t = 1)
    | some (.slice e) =>
      decide (P.cellsOf t = 1) && match P.underlying e with
      | some (.int _) => decide (P.cellsOf e = 1)
      | _ => decide (0 < P.cellsOf e) && openT P n e
    | some (.struct fs) => tilesT P 0 fs.toList == some (P.cellsOf t) && fs.toList.all fun f => openT P n f.type
    | _ => false
/-- Cells and what they read as. -/
structure CellsR (Fz : Nat → Prop) (w : World) (xs : List PD) (cs : List Value) : Prop where
  len : xs.length = cs.length
  rd : ∀ (i : Nat) x c, xs[i]? = some x → cs[i]? = some c → RD Fz w x c ∧ OneC c
theorem CellsR.one {Fz : Nat → Prop} {w : World} {x : PD} {c : Value} (h : RD Fz w x c) (h1 : OneC c) : CellsR Fz w [x] [c] := ⟨rfl, fun i x' c' hx hc => by
  cases i with
  | zero => simp at hx hc; subst hx; subst hc; exact ⟨h, h1⟩
  | succ i => simp at hx⟩
theorem CellsR.app {Fz : Nat → Prop} {w : World} {xs ys : List PD} {cs ds : List Value} (h : CellsR Fz w xs cs) (h' : CellsR Fz w ys ds) : CellsR Fz w (xs ++ ys) (cs ++ ds) := ⟨by simp [h.len, h'.len], fun i x c hx hc => by
  by_cases hi : i < xs.length
  · rw [List.getElem?_append_left hi] at hx
    rw [List.getElem?_append_left (by rw [← h.len]; exact hi)] at hc
    exact h.rd i x c hx hc
  · rw [List.getElem?_append_right (by omega)] at hx
    rw [List.getElem?_append_right (by rw [← h.len]; omega), ← h.len] at hc
    exact h'.rd _ x c hx hc⟩
theorem CellsR.agg {Fz : Nat → Prop} {w : World} {xs : List PD} {cs : Array Value} (h : CellsR Fz w xs cs.toList) : RD Fz w (.agg xs) (.agg cs) := by
  refine .agg xs cs (by have := h.len; simpa using this.symm) (fun u hu => ?_) fun i hi => ?_
  · obtain ⟨i, hi⟩ := List.getElem?_of_mem hu
    have hlt := (List.getElem?_eq_some_iff.1 hi).1
    have hx : i < xs.length := by rw [h.len]; exact hlt
    exact (h.rd i xs[i] u (by simp [hx]) hi).2
  · have hlt : i < cs.toList.length := by rw [← h.len]; exact hi
    have hlt' : i < cs.size := by simpa using hlt
    rw [getD_lt _ _ hlt']
    exact (h.rd i xs[i] cs[i] (by simp [hi]) (by simp [hlt'])).1
/-- Fields, one after the other. -/
theorem tiled {P : Program} {Fz : Nat → Prop} {w : World} {cs : List Value} {Q : TypeId → List PD → Prop} : ∀ (fs : List Field) (off tot : Nat), tilesT P off fs = some tot → tot ≤ cs.length →
    (∀ f ∈ fs, ∃ xs, CellsR Fz w xs ((cs.drop f.offset).take (P.cellsOf f.type)) ∧ Q f.type xs) →
    off ≤ tot ∧ ∃ xs, CellsR Fz w xs ((cs.drop off).take (tot - off)) ∧ ∀ f ∈ fs, off ≤ f.offset ∧ Q f.type ((xs.drop (f.offset - off)).take (P.cellsOf f.type))
  | [], off, tot, ht, hl, h => by
    simp only [tilesT, Option.some.injEq] at ht
    subst ht
    exact ⟨Nat.le_refl _, [], ⟨by simp, fun i x c hx => by simp at hx⟩, fun f hf => by simp at hf⟩
  | f :: fs, off, tot, ht, hl, h => by
    simp only [tilesT] at ht
    split at ht
    · rename_i e
      obtain ⟨h1, xs, h2, h3⟩ := tiled fs _ tot ht hl fun g hg => h g (by simp [hg])
      obtain ⟨ys, h4, h5⟩ := h f (by simp)
      rw [e] at h4
      have hys : ys.length = P.cellsOf f.type := by rw [h4.len]; simp; omega
      refine ⟨by omega, ys ++ xs, ?_, fun g hg => ?_⟩
      · have : (cs.drop off).take (tot - off) = (cs.drop off).take (P.cellsOf f.type) ++ (cs.drop (off + P.cellsOf f.type)).take (tot - (off + P.cellsOf f.type)) := by
          rw [show tot - off = P.cellsOf f.type + (tot - (off + P.cellsOf f.type)) by omega, List.take_add, List.drop_drop]
        rw [this]
        exact h4.app h2
      · rcases List.mem_cons.1 hg with rfl | hg
        · refine ⟨by omega, ?_⟩
          rw [show g.offset - off = 0 by omega, List.drop_zero, List.take_append_of_le_length (by omega), List.take_of_length_le (by omega)]
          exact h5
        · obtain ⟨h6, h7⟩ := h3 g hg
          refine ⟨by omega, ?_⟩
          rw [List.drop_append, List.drop_of_length_le (by omega), List.nil_append, show g.offset - off - ys.length = g.offset - (off + P.cellsOf f.type) by omega]
          exact h7
    · cases ht
section
variable {H : Type} {enc : TypeId × Value → H} {P : Program} {W : World} {spare : Nat → Bool}
theorem cell_block {W : World} {a : Addr} {v : Value} (h : W.cell? a = some v) : a.spot = none ∧ a.block < W.heap.size := by
  refine ⟨?_, ?_⟩
  · unfold World.cell? at h
    split at h
    · split at h
      · cases h
      · rename_i hsp
        cases hxs : a.spot with
        | none => rfl
        | some s => simp [hxs] at hsp
    · cases h
  · rcases Nat.lt_or_ge a.block W.heap.size with h1 | h1
    · exact h1
    · simp [World.cell?, Array.getElem?_eq_none h1] at h
/-- What reads as data is pure data, cell by cell. -/
theorem open_cells : ∀ (fuel : Nat) (t : TypeId) (cs : List Value) (x : DataW H × List MemPlace) (m : Nat), DataW.trod enc P W 0 spare true fuel t cs = some x → openT P m t = true →
    cs.length = P.cellsOf t ∧ ∃ xs, CellsR (· < W.heap.size) W xs cs ∧ ∃ n, WfV P n t xs := by
  intro fuel
  induction fuel with
  | zero => intro t cs x m h; simp [DataW.trod] at h
  | succ fuel ih =>
    intro t cs x m h ho
    cases m with
    | zero => simp [openT] at ho
    | succ m =>
      unfold openT at ho
      cases hu : P.underlying t with
      | none => rw [hu] at ho; simp at ho
      | some d =>
        rw [hu] at ho
        cases d with
        | int k =>
          obtain ⟨n, rfl, _, hw⟩ := DataW.trod_int hu h
          exact ⟨by simpa using (of_decide_eq_true ho).symm, [.int k n], .one (.int k n) rfl, 1, by simp only [WfV, hu]; exact ⟨n, rfl, hw⟩⟩
        | bool =>
          obtain ⟨b, rfl, _⟩ := DataW.trod_bool hu h
          exact ⟨by simpa using (of_decide_eq_true ho).symm, [.bool b], .one (.bool b) rfl, 1, by simp only [WfV, hu]; exact ⟨b, rfl⟩⟩
        | string =>
          obtain ⟨s, rfl, _, hs⟩ := DataW.trod_string hu h
          exact ⟨by simpa using (of_decide_eq_true ho).symm, [.str s], .one (.str s) rfl, 1, by simp only [WfV, hu]; exact ⟨s, rfl, hs⟩⟩
        | slice e =>
          simp only [Bool.and_eq_true, decide_eq_true_eq] at ho
          obtain ⟨ho1, ho⟩ := ho
          by_cases hint : ∃ k, P.underlying e = some (.int k)
          · obtain ⟨k, he⟩ := hint
            rw [he] at ho
            simp only [decide_eq_true_eq] at ho
            rcases open_ints hu he ho h with ⟨rfl, _⟩ | ⟨a, len, cap, zs, rfl, _, hl, hm, hz, _, hc, hw⟩
            · exact ⟨by simpa using ho1.symm, [.nums k []], .one (.nilNums k) rfl, 1, by simp only [WfV, hu, he]; exact ⟨[], rfl, by simp, by simp⟩⟩
            · have hlz : len ≤ zs.length := by rw [hz]; split <;> omega
              have hzl : (zs.take len).length = len := by simp; omega
              refine ⟨by simpa using ho1.symm, [.nums k (zs.take len)], .one ?_ rfl, 1, by simp only [WfV, hu, he]; exact ⟨_, rfl, by rw [hzl]; omega, fun n hn => hw n (List.mem_of_mem_take hn)⟩⟩
              have : RD (· < W.heap.size) W (.nums k (zs.take len)) (.slice (some a) (zs.take len).length cap) := by
                refine .nums k _ a cap (by omega) fun h0 => ?_
                have h00 := hc 0 (by omega)
                rw [show a.add 0 = a by simp [Addr.add]] at h00
                obtain ⟨hs, hb⟩ := cell_block h00
                refine ⟨hs, hb, fun j v hj => ?_⟩
                have hj' : j < (zs.take len).length := by simpa using (List.getElem?_eq_some_iff.1 hj).1
                have hcj := hc j (by omega)
                rw [add_spot hs] at hcj
                rw [hcj]
                simp only [List.getElem?_map, List.getElem?_take] at hj
                split at hj
                · have hjl : j < zs.length := by omega
                  simp only [List.getElem?_eq_getElem hjl, Option.map_some, Option.some.injEq] at hj
                  rw [← hj]
                  simp [List.getD, hjl]
                · cases hj
              rwa [hzl] at this
          · have hne : ∀ k, P.underlying e ≠ some (.int k) := fun k hk => hint ⟨k, hk⟩
            have ho2 : 0 < P.cellsOf e ∧ openT P m e = true := by
              split at ho
              · rename_i k hk; exact absurd hk (hne k)
              · simpa using ho
            have wf : ∀ n (ys : List PD), ys.length ≤ maxLen → (∀ y ∈ ys, ElemWf (aggT P e) (WfV P n e) y) → WfV P (n + 1) t [.sl (P.cellsOf e) ys] := fun n ys hl hy => by
              unfold WfV
              rw [hu]
              dsimp only
              split
              · rename_i k hk; exact absurd hk (hne k)
              · exact ⟨ys, rfl, hl, hy⟩
            rcases DataW.trod_slice hu h with ⟨rfl, _⟩ | ⟨a, len, cap, elems, rest, n, hfuel, rfl, _, hb, hl, hm, hlen, hel, _, _⟩
            · exact ⟨by simpa using ho1.symm, [.sl (P.cellsOf e) []], .one (.nilSl _) rfl, 1, wf 0 [] (by simp) (by simp)⟩
            · have hn : n = fuel := by omega
              subst hn
              have each : ∀ i, i < len → ∃ y : Value × PD × Nat, ElemAt W a.block (a.off + i * P.cellsOf e) (P.cellsOf e) y.1 ∧ RD (· < W.heap.size) W y.2.1 y.1 ∧ a.spot = none ∧ a.block < W.heap.size ∧ ElemWf (aggT P e) (WfV P y.2.2 e) y.2.1 := fun i hi => by
                have h1 := hel i hi
                have h2 : i < elems.length := by omega
                rw [List.getElem?_eq_getElem h2] at h1
                obtain ⟨cs', hcs, htr⟩ := Option.bind_eq_some_iff.1 h1
                obtain ⟨hcl, xs, hxs, n', hwf⟩ := ih e cs' _ m htr ho2.2
                obtain ⟨_, hlc, hcell⟩ := World.cells?_some hcs
                have hpos : 0 < cs'.length := by omega
                have hspot : a.spot = none ∧ a.block < W.heap.size := by
                  have h3 := hcell 0 ho2.1
                  rw [List.getElem?_eq_getElem hpos, Go.Deep.add_add] at h3
                  obtain ⟨h4, h5⟩ := cell_block h3
                  refine ⟨?_, ?_⟩
                  · have h6 := hel 0 (by omega)
                    rw [List.getElem?_eq_getElem (by omega)] at h6
                    obtain ⟨cs0, hc0, ht0⟩ := Option.bind_eq_some_iff.1 h6
                    have h7 := (World.cells?_some hc0)
                    have h8 := h7.2.2 0 ho2.1
                    rw [List.getElem?_eq_getElem (by omega)] at h8
                    have := (cell_block h8).1
                    simpa [Addr.add] using this
                  · have : ((a.add (i * P.cellsOf e + 0))).block = a.block := by unfold Addr.add; split <;> rfl
                    rw [this] at h5
                    exact h5
                have cells_at : ∀ j v, cs'[j]? = some v → W.cell? ⟨a.block, a.off + i * P.cellsOf e + j, none⟩ = some v := fun j v hj => by
                  have hj' := (List.getElem?_eq_some_iff.1 hj).1
                  have h3 := hcell j (by omega)
                  rw [Go.Deep.add_add, add_spot hspot.1, hj] at h3
                  rw [← h3]
                  congr 2
                  omega
                have one : ∀ u ∈ cs', OneC u := fun u hu => by
                  obtain ⟨j, hj⟩ := List.getElem?_of_mem hu
                  have hlt := (List.getElem?_eq_some_iff.1 hj).1
                  have hx : j < xs.length := by rw [hxs.len]; exact hlt
                  exact (hxs.rd j xs[j] u (by simp [hx]) hj).2
                cases hagg : aggT P e with
                | true =>
                  refine ⟨(.agg cs'.toArray, .agg xs, n'), ⟨by simpa [Value.cells] using hcl, by simpa [Value.cells] using one, fun j v hj => cells_at j v (by simpa [Value.cells] using hj)⟩, CellsR.agg (cs := cs'.toArray) (by simpa using hxs), hspot.1, hspot.2, ?_⟩
                  unfold ElemWf
                  rw [if_pos rfl]
                  exact ⟨xs, rfl, hwf⟩
                | false =>
                  -- one cell
                  have h1c : P.cellsOf e = 1 := by
                    cases m with
                    | zero => simp [openT] at ho2
                    | succ m =>
                      have := ho2.2
                      unfold openT at this
                      unfold aggT at hagg
                      split at this <;> simp_all
                  have hcl1 : cs'.length = 1 := by omega
                  match cs', xs, hcl1, hxs, cells_at, one, hwf, hcl with
                  | [c], [y], _, hxs, cells_at, one, hwf, hcl =>
                    have h1 := one c (by simp)
                    refine ⟨(c, y, n'), ⟨by rw [cells_one h1, h1c]; rfl, fun u hu => by rw [cells_one h1] at hu; simp at hu; subst hu; exact h1, fun j v hj => cells_at j v (by rw [cells_one h1] at hj; simpa using hj)⟩, (hxs.rd 0 y c rfl rfl).1, hspot.1, hspot.2, ?_⟩
                    unfold ElemWf
                    rw [if_neg (by simp)]
                    exact hwf
                  | [c], [], _, hxs, _, _, _, _ => exact absurd hxs.len (by simp)
                  | [c], _ :: _ :: _, _, hxs, _, _, _, _ => exact absurd hxs.len (by simp)
              haveI : Inhabited (Value × PD × Nat) := ⟨(undef, PD.nils, 0)⟩
              obtain ⟨F, hF⟩ := Go.Deep.choose_lt each
              -- one fuel for all
              have mono : ∀ (n : Nat) t xs, WfV P n t xs → ∀ k, WfV P (n + k) t xs := wfV_mono P
              obtain ⟨N, hN⟩ := Go.Deep.fuel_lt (n := len) (q := fun i b => ElemWf (aggT P e) (WfV P b e) (F i).2.1) (fun i a b hab h => by
                unfold ElemWf at h ⊢
                obtain ⟨k, rfl⟩ : ∃ k, b = a + k := ⟨b - a, by omega⟩
                split at h
                · obtain ⟨xs, h1, h2⟩ := h
                  rw [if_pos (by assumption)]
                  exact ⟨xs, h1, mono _ _ _ h2 k⟩
                · rw [if_neg (by assumption)]
                  exact mono _ _ _ h k) fun i hi => ⟨_, (hF i hi).2.2.2.2⟩
              refine ⟨by simpa using ho1.symm, [.sl (P.cellsOf e) ((List.range len).map fun i => (F i).2.1)], .one ?_ rfl, N + 1, wf N _ (by simp; omega) fun y hy => ?_⟩
              · have : RD (· < W.heap.size) W (.sl (P.cellsOf e) ((List.range len).map fun i => (F i).2.1)) (.slice (some a) ((List.range len).map fun i => (F i).2.1).length cap) := by
                  refine .sl _ _ a cap (fun i => (F i).1) (by simpa using hl) (fun h0 => ?_) (fun i hi => (hF i (by simpa using hi)).1) fun i hi => ?_
                  · have := hF 0 (by simpa using h0)
                    exact ⟨this.2.2.1, this.2.2.2.1⟩
                  · simp only [List.getElem_map, List.getElem_range]
                    exact (hF i (by simpa using hi)).2.1
                simpa using this
              · obtain ⟨i, hi, rfl⟩ := List.mem_map.1 hy
                exact hN i (List.mem_range.1 hi)
        | struct fs =>
          simp only [Bool.and_eq_true, beq_iff_eq, List.all_eq_true] at ho
          obtain ⟨xs0, n, hfu, _, hlen, hsz, hf⟩ := DataW.trod_struct hu h
          have hn : n = fuel := by omega
          subst hn
          have hall : ∀ f ∈ fs.toList, ∃ xs, CellsR (· < W.heap.size) W xs ((cs.drop f.offset).take (P.cellsOf f.type)) ∧ ∃ k, WfV P k f.type xs := fun f hfm => by
            obtain ⟨i, hi⟩ := List.getElem?_of_mem hfm
            have hi' : fs[i]? = some f := by simpa using hi
            have hilt : i < xs0.length := by rw [hsz]; exact (Array.getElem?_eq_some_iff.1 hi').1
            have htr := hf i f hi'
            rw [List.getElem?_eq_getElem hilt] at htr
            obtain ⟨_, xs, h1, h2⟩ := ih f.type _ _ m htr (ho.2 f hfm)
            exact ⟨xs, h1, h2⟩
          obtain ⟨_, xs, h1, h2⟩ := tiled (Q := fun t xs => ∃ k, WfV P k t xs) fs.toList 0 (P.cellsOf t) ho.1 (by omega) hall
          have hfull : (cs.drop 0).take (P.cellsOf t - 0) = cs := by rw [List.drop_zero, Nat.sub_zero, List.take_of_length_le (by omega)]
          rw [hfull] at h1
          have big : ∃ N, ∀ f ∈ fs.toList, WfV P N f.type ((xs.drop f.offset).take (P.cellsOf f.type)) := by
            have : ∀ l : List Field, (∀ f ∈ l, ∃ k, WfV P k f.type ((xs.drop f.offset).take (P.cellsOf f.type))) → ∃ N, ∀ f ∈ l, WfV P N f.type ((xs.drop f.offset).take (P.cellsOf f.type)) := by
              intro l
              induction l with
              | nil => intro _; exact ⟨0, by simp⟩
              | cons f l ihl =>
                intro hl
                obtain ⟨N, hN⟩ := ihl fun g hg => hl g (by simp [hg])
                obtain ⟨k, hk⟩ := hl f (by simp)
                refine ⟨N + k, fun g hg => ?_⟩
                rcases List.mem_cons.1 hg with rfl | hg
                · rw [Nat.add_comm]; exact wfV_mono P _ _ _ hk N
                · exact wfV_mono P _ _ _ (hN g hg) k
            exact this _ fun f hfm => by simpa using (h2 f hfm).2
          obtain ⟨N, hN⟩ := big
          exact ⟨hlen, xs, h1, N + 1, by unfold WfV; rw [hu]; exact ⟨by rw [h1.len, hlen], hN⟩⟩
        | _ => simp at ho
where
  wfV_mono (P : Program) : ∀ (n : Nat) t xs, WfV P n t xs → ∀ k, WfV P (n + k) t xs := by
    intro n
    induction n with
    | zero => intro t xs h; exact h.elim
    | succ n ih =>
      intro t xs h k
      rw [show n + 1 + k = n + k + 1 by omega]
      unfold WfV at h ⊢
      cases hu : P.underlying t with
      | none => rw [hu] at h; exact h
      | some d =>
        rw [hu] at h
        cases d with
        | slice e =>
          dsimp only at h ⊢
          split at h
          · exact h
          · obtain ⟨ys, h1, h2, h3⟩ := h
            refine ⟨ys, h1, h2, fun y hy => ?_⟩
            have := h3 y hy
            unfold ElemWf at this ⊢
            split at this
            · obtain ⟨xs, h4, h5⟩ := this
              rw [if_pos (by assumption)]
              exact ⟨xs, h4, ih _ _ h5 k⟩
            · rw [if_neg (by assumption)]
              exact ih _ _ this k
        | struct fs => exact ⟨h.1, fun f hf => ih _ _ (h.2 f hf) k⟩
        | _ => exact h
/-- An argument's value out of its cells. -/
def argD (agg : Bool) (xs : List PD) : D := if agg = true then .pd (.agg xs) else .pd (xs.headD PD.nils)
/-- Arguments of these types. -/
def ArgsWf (P : Program) : List TypeId → List D → Prop
  | [], ds => ds = []
  | t :: ts, ds => ∃ n xs ds', ds = argD (aggT P t) xs :: ds' ∧ WfV P n t xs ∧ ArgsWf P ts ds'
theorem open_arg {t : TypeId} {v : Value} {d : DataW H} {p : List MemPlace} {m : Nat} (ho : openT P m t = true) {r : Reach} {b0 : Nat} (hval : Value.okWide P W r b0 t v) (h : DataW.Trod enc P W 0 spare true t v d p) :
    ∃ n xs, WfV P n t xs ∧ V (fun _ => False) (fun _ => undef) (· < W.heap.size) W (argD (aggT P t) xs) v := by
  obtain ⟨fuel, hf⟩ := h
  obtain ⟨hl, xs, hx, n, hw⟩ := open_cells fuel t _ _ m hf ho
  refine ⟨n, xs, hw, ?_⟩
  have scal : v.cells = #[v] → aggT P t = false → V (fun _ => False) (fun _ => undef) (· < W.heap.size) W (argD (aggT P t) xs) v := fun hc ha => by
    rw [hc] at hx
    unfold argD
    rw [ha, if_neg (by simp)]
    match xs, hx with
    | [x], hx => exact .pd _ _ (hx.rd 0 x v rfl (by simp)).1
    | [], hx => exact absurd hx.len (by simp)
    | _ :: _ :: _, hx => exact absurd hx.len (by simp)
  cases m with
  | zero => simp [openT] at ho
  | succ m =>
    unfold openT at ho
    cases hu : P.underlying t with
    | none => rw [hu] at ho; simp at ho
    | some d =>
      rw [hu] at ho
      cases d with
      | int k => obtain ⟨_, rfl⟩ := okWide_int hu hval; exact scal rfl (by unfold aggT; rw [hu])
      | bool => obtain ⟨_, rfl⟩ := okWide_bool hu hval; exact scal rfl (by unfold aggT; rw [hu])
      | string => obtain ⟨_, rfl⟩ := okWide_string hu hval; exact scal rfl (by unfold aggT; rw [hu])
      | slice e => obtain ⟨_, _, _, rfl⟩ := okWide_slice hu hval; exact scal rfl (by unfold aggT; rw [hu])
      | struct fs =>
        obtain ⟨cs, rfl, _⟩ := okWide_struct hu hval
        have ha : aggT P t = true := by unfold aggT; rw [hu]
        unfold argD
        rw [ha, if_pos rfl]
        exact .pd _ _ hx.agg
      | _ => simp at ho
theorem open_args {m : Nat} {r : Reach} {b0 : Nat} : ∀ (ts : List TypeId) (vs : List Value) (ds : List (DataW H)) (p : List MemPlace), (∀ t ∈ ts, openT P m t = true) → (∀ (j : Nat) t v, ts[j]? = some t → vs[j]? = some v → Value.okWide P W r b0 t v) →
    DataW.TrodAll enc P W 0 spare true ts vs ds p → ∃ args, ArgsWf P ts args ∧ VL (fun _ => False) (fun _ => undef) (· < W.heap.size) W args vs
  | [], vs, ds, p, _, _, h => by
    have : vs = [] := by cases vs with
      | nil => rfl
      | cons v vs => cases ds <;> simp [DataW.TrodAll] at h
    subst this
    exact ⟨[], rfl, .nil⟩
  | t :: ts, vs, ds, p, ho, hval, h => by
    cases vs with
    | nil => cases ds <;> simp [DataW.TrodAll] at h
    | cons v vs =>
      cases ds with
      | nil => simp [DataW.TrodAll] at h
      | cons d ds =>
        obtain ⟨p1, q, h1, h2, rfl⟩ := h
        obtain ⟨n, xs, hw, hv⟩ := open_arg (ho t (by simp)) (hval 0 t v rfl rfl) h1
        obtain ⟨args, ha, hvl⟩ := open_args ts vs ds q (fun t ht => ho t (by simp [ht])) (fun j t v hj hv => hval (j + 1) t v (by simpa using hj) (by simpa using hv)) h2
        exact ⟨_ :: args, ⟨n, xs, args, rfl, hw, ha⟩, .cons hv hvl⟩
theorem trodAll_stays (hl : laidOutB P = true) {W' : World} (hb : Below W.heap.size W W') : ∀ (ts : List TypeId) (vs : List Value) (ds : List (DataW H)) (p : List MemPlace), (∀ t ∈ ts, P.readableRec t = true ∧ t < P.types.size) →
    DataW.TrodAll enc P W 0 (fun _ => true) true ts vs ds p → DataW.TrodAll enc P W' 0 (fun b => decide (b < W.heap.size)) true ts vs ds p
  | [], vs, ds, p, _, h => by
    cases vs <;> cases ds <;> simp [DataW.TrodAll] at h ⊢
    exact h
  | t :: ts, vs, ds, p, ho, h => by
    cases vs with
    | nil => cases ds <;> simp [DataW.TrodAll] at h
    | cons v vs =>
      cases ds with
      | nil => simp [DataW.TrodAll] at h
      | cons d ds =>
        obtain ⟨p1, q, h1, h2, rfl⟩ := h
        have hlt : ∀ x ∈ p1, x.block < W.heap.size := by
          obtain ⟨m, hm⟩ := h1
          exact DataW.trod_lt m _ _ _ hm
        exact ⟨p1, q, Below.trod hl (ho t (by simp)).1 (ho t (by simp)).2 h1 hb hlt, trodAll_stays hl hb ts vs ds q (fun t ht => ho t (by simp [ht])) h2, rfl⟩
/-- A law's call: it tells true, and what came in reads as it did. -/
theorem law_calls (hl : laidOutB P = true) {f : FuncId} {fn : Func} (hf : P.funcs[f]? = some fn) (hb : fn.body.isSome = true) (hn : fn.name ≠ "runtime.NumGoroutine")
    (hts : ∀ t ∈ fn.params.toList, openT P 40 t = true ∧ P.readableRec t = true ∧ t < P.types.size)
    (hlaw : ∀ args, ArgsWf P fn.params.toList args → ∃ hp, FnOK P f args [] (.pd (.bool true), hp)) (hG : GlobOk (· < W.heap.size) W)
    {r : Reach} {b0 : Nat} {args : Array Value} {ds : List (DataW H)} {p : List MemPlace} (hval : ∀ (j : Nat) t v, fn.params[j]? = some t → args[j]? = some v → Value.okWide P W r b0 t v)
    (h : DataW.TrodAll enc P W 0 (fun _ => true) true fn.params.toList args.toList ds p) :
    Calls P f args W fun e W' => e = .returned (.bool true) ∧ Below W.heap.size W W' ∧ DataW.TrodAll enc P W' 0 (fun b => decide (b < W.heap.size)) true fn.params.toList args.toList ds p := by
  obtain ⟨as, ha, hv⟩ := open_args fn.params.toList args.toList ds p (fun t ht => (hts t ht).1) (fun j t v hj hv => hval j t v (by simpa using hj) (by simpa using hv)) h
  obtain ⟨hp, hok⟩ := hlaw as ha
  have := hok.true hf hb hn W hG args.toList hv.len (fun i hi => hv.get i hi)
  rw [Array.toArray_toList] at this
  exact this.mono fun e W' ⟨h1, h2⟩ => ⟨h1, h2, trodAll_stays hl h2 _ _ _ _ (fun t ht => (hts t ht).2) h⟩
end
/-- From a law's value to its outcome. -/
theorem ent_true {P : Program} {g : FuncId} {ps : Pt} {f : TyA ps [] → Option (TyR .bool [])} (h : EntOK P g (ent ps [] .bool [] f)) {args : List D} {x : TyA ps []} (hx : rdA ps [] args [] = some x) (hf : f x = some true) : ∃ hp, FnOK P g args [] (.pd (.bool true), hp) := by
  refine ⟨[], (h.1 args []).get (a := (.pd (.bool true), [])) ?_⟩
  unfold ent
  rw [run_bind, run_lift, hx, Option.bind_some, run_bind, run_lift, hf]
  rfl
end Go.Ev
