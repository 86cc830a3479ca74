import Derived.Test.YthoooflagabpoaaEvIns30
import Derived.Shelf.RegionOpenPlain
import Derived.Lib.AppendZerosOnto
import Derived.Laws.NewBlocks
set_option linter.unusedVariables false
set_option linter.unusedSimpArgs false
set_option linter.unusedSectionVars false
namespace Go.Proofs.Ythoooflagabpoaa
open Go Go.Ev Go.RowKit Go.Lib
theorem _root_.Go.Ev.But.trans {w w' w2 : World} {b : Option Nat} (h : But w w' b) (h' : But w' w2 b) : But w w2 b :=
  ⟨h'.os.trans h.os, h'.tape.trans h.tape, h'.output.trans h.output, Nat.le_trans h.size h'.size, fun k hk hb => (h'.block k (Nat.lt_of_lt_of_le hk h.size) hb).trans (h.block k hk hb)⟩
theorem info75 : ∃ i0 zv, Try.prog.info? 75 = some i0 ∧ i0.size = 2 ∧ i0.bytes = 16 ∧ i0.zero = some zv ∧ zv.cells.size = 2 := by
  have h : (Try.prog.info? 75).map (fun i => (i.size, i.bytes, i.zero.map (·.cells.size))) = some (2, 16, some 2) := by kernel_rfl
  obtain ⟨i, hi, h2⟩ := Option.map_eq_some_iff.1 h
  simp only [Prod.mk.injEq] at h2
  obtain ⟨h3, h4, h5⟩ := h2
  obtain ⟨zv, hz, hzs⟩ := Option.map_eq_some_iff.1 h5
  exact ⟨i, zv, hi, h3, h4, hz, hzs⟩
set_option maxHeartbeats 4000000 in
set_option maxRecDepth 100000 in
theorem ins_end (w w' : World) (base : Option Addr) (n c vb vc : Nat) (v' : Value) (h1v' : v'.oneCell' = true) (hr : ∀ ty, (Builtin.append_ #[31, 31] ty #[.slice base n c, .slice (some ⟨vb, 0, none⟩) 1 vc]).run Try.prog w = .ok v' w') :
    Calls Try.prog 34 #[.slice base n c, .int .i64 n, .slice (some ⟨vb, 0, none⟩) 1 vc] w fun e w2 => e = .returned v' ∧ w2 = w' := by
  have mixed : Try.prog.follows Departure.mixedOrders = true := by kernel_rfl
  go_enter Try.func34, Try.ntmps34
  rcases base with _ | ⟨ab, ao, asp⟩
  all_goals
    go_wp2_with (at_builtin; refine wpList_append_run _ rfl _ _ 31 31 rfl _ _ rfl rfl (hr _) ?_)
    all_goals (go_ret; exact ⟨rfl, rfl⟩)
section road
variable (w : World) (n i : Nat) (hi : i < n) (b : Nat) (cap : Nat) (cur : Array Value) (fz : Nat × Nat) (hb : w.heap[b]? = some (.cells cur 75 fz)) (hcs : cur.size = cap * 2) (hcm : cap ≤ 9223372036854775807) (h1 : ∀ u ∈ cur.toList.take (n * 2), OneC u) (hnc : n ≤ cap)
  (vb vc : Nat) (vcur : Array Value) (vfz : Nat × Nat) (hvb : w.heap[vb]? = some (.cells vcur 75 vfz)) (hvs : vcur.size = vc * 2) (hvc : 1 ≤ vc) (hne : vb ≠ b) (ns : List Value) (hns : vcur.toList.take 2 = ns) (h1v : ∀ u ∈ ns, OneC u)
include hi hb hcs hcm h1 hvb hvs hvc hne hns h1v hnc
set_option maxHeartbeats 4000000 in
set_option maxRecDepth 100000 in
theorem ins_grow (hroom : cap < n + 1) (hbig : (n + 1) * 16 ≤ 140737488355328) : Calls Try.prog 34 #[.slice (some ⟨b, 0, none⟩) n cap, .int .i64 i, .slice (some ⟨vb, 0, none⟩) 1 vc] w fun e w' =>
    ∃ G, e = .returned (.slice (some ⟨w.heap.size, 0, none⟩) (n + 1) G) ∧ OwnRow w' 75 2 (.slice (some ⟨w.heap.size, 0, none⟩) (n + 1) G) (n + 1) ((cur.toList.take (n * 2)).take (i * 2) ++ ns ++ (cur.toList.take (n * 2)).drop (i * 2)) ∧ But w w' (some w.heap.size) := by
  have hz2 : ¬ ((i : Int) = (n : Int)) := by omega
  have hz3 : (cap : Int) < (n : Int) + 1 := by omega
  have hnl : ns.length = 2 := by rw [← hns]; simp; omega
  have hbw : b < w.heap.size := (Array.getElem?_eq_some_iff.1 hb).1
  have hvw : vb < w.heap.size := (Array.getElem?_eq_some_iff.1 hvb).1
  have hsz : (Try.prog.info? 75).map (·.size) = some 2 := by kernel_rfl
  have hcl : (cur.toList.take (n * 2)).length = n * 2 := by simp; omega
  generalize hcsd : cur.toList.take (n * 2) = cs at *
  have hcell : ∀ j v, cs[j]? = some v → cur[j]? = some v := fun j v hj => by
    rw [← hcsd, List.getElem?_take] at hj
    split at hj
    · simpa using hj
    · cases hj
  obtain ⟨i0, zv, hi0, hzs, hzb, hz0, hzc⟩ := info75
  have hkk : (n : Int) + 1 - (i : Int) = ((n + 1 - i : Nat) : Int) := by omega
  have hik : i + (n + 1 - i) = n + 1 := by omega
  have hold : (Builtin.firstCells i0.size i (.slice (some ⟨b, 0, none⟩) i cap)).run Try.prog w.drew = .ok (cs.take (i * 2)).toArray w.drew := by
    rw [hzs]
    exact run_firstCells_some w.drew 2 i ⟨b, 0, none⟩ i cap (cs.take (i * 2)) (by rw [List.length_take, hcl]; omega) (fun j v hj => by
      rw [Addr.add_lit]
      rw [List.getElem?_take] at hj
      split at hj
      · have := hcell j v hj
        show World.cell? w _ = _
        simp [World.cell?, hb, this]
      · cases hj)
  have hrz : ∀ ty, (Builtin.append_ #[31, 3] ty #[.slice (some ⟨b, 0, none⟩) i cap, .int .i64 ((n : Int) + 1 - (i : Int))]).run Try.prog w =
      .ok (.slice (some ⟨w.heap.size, 0, none⟩) (n + 1) (grownCap w (n + 1) cap 75)) (w.drew.alloc (.cells ((cs.take (i * 2)).toArray ++ Builtin.zeroCells zv.cells (n + 1 - i) ++ Builtin.zeroCells zv.cells (grownCap w (n + 1) cap 75 - (n + 1))) 75)) := fun ty => by
    have h := Lib.run_append_grow_zeros (P := Try.prog) w 31 3 ty 75 i0 zv .i64 .i64 Try.underlying31 Try.underlying3 hi0 hz0 (some ⟨b, 0, none⟩) i cap (cs.take (i * 2)) hold (n + 1 - i) (by omega) (by omega) (by omega) (by omega) (by rw [hzb]; omega) (by rw [hzb, hik]; exact growslice_fits hroom hbig)
    rw [hik] at h
    rw [hkk]
    exact h
  have hGn : n + 1 ≤ grownCap w (n + 1) cap 75 := grownCap_ge w _ _ _
  have hGm : grownCap w (n + 1) cap 75 ≤ maxLen := grownCap_le_maxLen w (n + 1) cap 75 (by unfold maxLen; omega)
  generalize hG : grownCap w (n + 1) cap 75 = G at *
  have hG63 : G ≤ 9223372036854775807 := by
    unfold maxLen at hGm
    omega
  obtain ⟨ROW, hROW⟩ : ∃ ROW : Array Value, ROW = (cs.take (i * 2)).toArray ++ Builtin.zeroCells zv.cells (n + 1 - i) ++ Builtin.zeroCells zv.cells (G - (n + 1)) := ⟨_, rfl⟩
  rw [← hROW] at hrz
  have hRl : ROW.size = G * 2 := by
    rw [hROW]
    simp only [Array.size_append, List.size_toArray, List.length_take, hcl, size_zeroCells, hzc]
    omega
  have hRt : ROW.toList.take (i * 2) = cs.take (i * 2) := by
    rw [hROW]
    simp only [Array.toList_append, List.append_assoc]
    rw [List.take_append_of_le_length (by simp [hcl]; omega), List.take_take, Nat.min_self]
  obtain ⟨W1, hW1⟩ : ∃ W1, W1 = w.drew.alloc (.cells ROW 75) := ⟨_, rfl⟩
  rw [← hW1] at hrz
  have hB1 : But w W1 (some w.heap.size) := by rw [hW1]; exact ⟨rfl, rfl, rfl, by simp, fun k hk _ => heap_alloc_old w.drew _ hk⟩
  have hR1 : W1.heap[w.heap.size]? = some (.cells ROW 75 (0, 0)) := by rw [hW1]; exact heap_alloc_new w.drew _
  have hvb1 : W1.heap[vb]? = some (.cells vcur 75 vfz) := by rw [hW1]; exact (heap_alloc_old w.drew _ hvw).trans hvb
  have hbb1 : W1.heap[b]? = some (.cells cur 75 fz) := by rw [hW1]; exact (heap_alloc_old w.drew _ hbw).trans hb
  clear hW1
  have hcpA : ∀ ty dc, (Builtin.copy_ #[31, 31] ty #[.slice (some ⟨w.heap.size, i * 2, none⟩) (n + 1 - i) dc, .slice (some ⟨vb, 0, none⟩) 1 vc]).run Try.prog W1 = .ok (goInt 1) (W1.setRow w.heap.size (ROW.toList.take (i * 2) ++ ns ++ ROW.toList.drop (i * 2 + ns.length)).toArray) := fun ty dc => by
    have hm : Nat.min 1 (n + 1 - i) = 1 := by simp only [Nat.min_def]; split <;> omega
    have := run_copy_block (P := Try.prog) W1 31 75 2 Try.underlying31 hsz ty w.heap.size (i * 2) (n + 1 - i) dc ⟨vb, 0, none⟩ 1 vc ROW 75 (0, 0) ns hR1 (.inl (Nat.le_refl 0)) (by omega) h1v (by rw [hm, hnl]) (fun j v hj => by
      rw [Addr.add_lit]
      have h2 : vcur[j]? = some v := by
        rw [← hns, List.getElem?_take] at hj
        split at hj
        · simpa using hj
        · cases hj
      simp [World.cell?, hvb1, h2])
    rw [hm] at this
    simpa using this
  obtain ⟨R2, hR2⟩ : ∃ R2 : List Value, R2 = ROW.toList.take (i * 2) ++ ns ++ ROW.toList.drop (i * 2 + ns.length) := ⟨_, rfl⟩
  rw [← hR2] at hcpA
  have hl2 : R2.length = ROW.size := by rw [hR2]; simp [hnl]; omega
  obtain ⟨W2, hW2⟩ : ∃ W2, W2 = W1.setRow w.heap.size R2.toArray := ⟨_, rfl⟩
  rw [← hW2] at hcpA
  have hR2' : W2.heap[w.heap.size]? = some (.cells R2.toArray 75 (0, 0)) := by rw [hW2]; exact setRow_heap W1 _ ROW _ 75 _ hR1
  have hbb2 : W2.heap[b]? = some (.cells cur 75 fz) := by rw [hW2, setRow_other W1 _ b _ (by omega)]; exact hbb1
  have hB2 : But w W2.drew (some w.heap.size) := by
    rw [hW2]
    have := hB1.trans (but_setRow W1 w.heap.size R2.toArray)
    exact ⟨this.os, this.tape, this.output, this.size, this.block⟩
  have hcpB : ∀ ty dc sc, (Builtin.copy_ #[31, 31] ty #[.slice (some ⟨w.heap.size, (i + 1) * 2, none⟩) (n - i) dc, .slice (some ⟨b, i * 2, none⟩) (n - i) sc]).run Try.prog W2.drew = .ok (goInt (n - i : Nat)) (W2.drew.setRow w.heap.size (R2.take ((i + 1) * 2) ++ cs.drop (i * 2) ++ R2.drop ((i + 1) * 2 + (cs.drop (i * 2)).length)).toArray) := fun ty dc sc => by
    have hm : Nat.min (n - i) (n - i) = n - i := by simp only [Nat.min_def]; split <;> omega
    have := run_copy_block (P := Try.prog) W2.drew 31 75 2 Try.underlying31 hsz ty w.heap.size ((i + 1) * 2) (n - i) dc ⟨b, i * 2, none⟩ (n - i) sc R2.toArray 75 (0, 0) (cs.drop (i * 2)) hR2' (.inl (Nat.le_refl 0)) (by simp [hcl, hl2]; omega) (fun v hv => h1 v (List.mem_of_mem_drop hv)) (by rw [hm]; simp [hcl]; omega) (fun j v hj => by
      rw [List.getElem?_drop] at hj
      have := hcell _ _ hj
      rw [Addr.add_lit]
      show World.cell? W2 _ = _
      simp [World.cell?, hbb2, this])
    rw [hm] at this
    exact this
  obtain ⟨W3, hW3⟩ : ∃ W3, W3 = W2.drew.setRow w.heap.size (R2.take ((i + 1) * 2) ++ cs.drop (i * 2) ++ R2.drop ((i + 1) * 2 + (cs.drop (i * 2)).length)).toArray := ⟨_, rfl⟩
  rw [← hW3] at hcpB
  have hfin : OwnRow W3 75 2 (.slice (some ⟨w.heap.size, 0, none⟩) (n + 1) G) (n + 1) (cs.take (i * 2) ++ ns ++ cs.drop (i * 2)) ∧ But w W3 (some w.heap.size) := by
    refine ⟨⟨by simp [hcl, hnl]; omega, by omega, .inr ⟨w.heap.size, G, _, (0, 0), rfl, by rw [hW3]; exact setRow_heap W2.drew _ R2.toArray _ 75 _ hR2', .inl (Nat.le_refl 0), hGn, hGm, by simp [hcl, hl2]; omega, ?_⟩⟩, by rw [hW3]; exact hB2.trans (but_setRow W2.drew w.heap.size _)⟩
    have e1 : R2.take ((i + 1) * 2) = cs.take (i * 2) ++ ns := by
      rw [hR2, hRt, List.take_append_of_le_length (by simp [hcl, hnl]; omega), List.take_of_length_le (by simp [hcl, hnl]; omega)]
    rw [List.toList_toArray, e1, List.take_append_of_le_length (by simp [hcl, hnl]; omega), List.take_of_length_le (by simp [hcl, hnl]; omega)]
  have hGi : ¬ (G = i) := by omega
  have hGim : ¬ (G = i + 1) := by omega
  have hci : ¬ (cap = i) := by omega
  have hw1 : IntKind.i64.wrap ((i : Int) + 1) = (i : Int) + 1 := by rw [IntKind.wrap_i64]; omega
  have hw2 : IntKind.i64.wrap ((n : Int) + 1) = (n : Int) + 1 := by rw [IntKind.wrap_i64]; omega
  have hw3 : IntKind.i64.wrap ((n : Int) + 1 - (i : Int)) = (n : Int) + 1 - (i : Int) := by rw [IntKind.wrap_i64]; omega
  have hb1 : (0 : Int) ≤ (i : Int) + 1 := by omega
  have hin : i ≤ n := by omega
  have htn : ((i : Int) + 1).toNat = i + 1 := by omega
  have hb3 : (i : Int) ≤ (n : Int) := by omega
  have mixed : Try.prog.follows Departure.mixedOrders = true := by kernel_rfl
  clear hkk hik hold hROW hRl hRt hB1 hR1 hvb1 hbb1 hR2 hl2 hW2 hR2' hbb2 hB2 hW3 hcell hi0 hz0 hzs hzb hzc
  go_enter Try.func34, Try.ntmps34
  go_wp2_with (first
    | (at_builtin; refine wpList_append_run _ rfl _ _ 31 3 rfl _ _ rfl rfl (hrz _) ?_)
    | (at_builtin; refine wpList_copy_run _ rfl _ _ 31 31 rfl _ _ rfl rfl (hcpA _ _) ?_))
  go_region_law_o (refine step_copy_run rfl _ _ 31 31 rfl _ _ (by simp [Act.eval, Act.put]) (by simp [Act.eval, Act.put]) (hcpB _ _ _) ?_)
  go_wp2
  go_ret
  exact ⟨G, rfl, hfin⟩
end road
end Go.Proofs.Ythoooflagabpoaa
