import Derived.Test.YthoooflagabpoaaEvIns30
import Derived.Shelf.RegionOpenPlain
set_option linter.unusedVariables false
set_option linter.unusedSimpArgs false
set_option linter.unusedSectionVars false
namespace Go.Proofs.Ythoooflagabpoaa
open Go Go.Ev Go.RowKit Go.Lib
section road
variable (w : World) (n i : Nat) (hi : i < n) (b : Nat) (cap : Nat) (cur : Array Value) (fz : Nat × Nat) (hb : w.heap[b]? = some (.cells cur 75 fz)) (hf : fz.2 ≤ fz.1 ∨ (cur.size ≤ fz.1 ∧ 2 = 1)) (hcs : cur.size = cap * 2) (hcm : cap ≤ 9223372036854775807) (h1 : ∀ u ∈ cur.toList.take (n * 2), OneC u) (hnc : n ≤ cap)
  (vb vc : Nat) (vcur : Array Value) (vfz : Nat × Nat) (hvb : w.heap[vb]? = some (.cells vcur 75 vfz)) (hvf : vfz.2 ≤ vfz.1 ∨ (vcur.size ≤ vfz.1 ∧ 2 = 1)) (hvs : vcur.size = vc * 2) (hvc : 1 ≤ vc) (hne : vb ≠ b) (ns : List Value) (hns : vcur.toList.take 2 = ns) (h1v : ∀ u ∈ ns, OneC u)
include hi hb hf hcs hcm h1 hvb hvf hvs hvc hne hns h1v
set_option maxHeartbeats 4000000 in
set_option maxRecDepth 100000 in
theorem ins_shift (hroom : n + 1 ≤ cap) : Calls Try.prog 34 #[.slice (some ⟨b, 0, none⟩) n cap, .int .i64 i, .slice (some ⟨vb, 0, none⟩) 1 vc] w fun e w' =>
    e = .returned (.slice (some ⟨b, 0, none⟩) (n + 1) cap) ∧ ∃ cur2 : List Value, w' = (w.drew.setRow b cur2.toArray) ∧ cur2.length = cur.size ∧ cur2.take ((n + 1) * 2) = (cur.toList.take (n * 2)).take (i * 2) ++ ns ++ (cur.toList.take (n * 2)).drop (i * 2) := by
  have hz2 : ¬ ((i : Int) = (n : Int)) := by omega
  have hnl : ns.length = 2 := by rw [← hns]; simp; omega
  have hfr : ∀ (W : World) bb (cc : Array Value) ff, W.heap[bb]? = some (.cells cc 75 ff) → (ff.2 ≤ ff.1 ∨ (cc.size ≤ ff.1 ∧ 2 = 1)) → ∀ o, W.frozen? ⟨bb, o, none⟩ = false := fun W bb cc ff hh hff o => by
    have : ff.2 ≤ ff.1 := by rcases hff with h | ⟨_, h⟩ <;> omega
    obtain ⟨lo, hi'⟩ := ff
    simp [World.frozen?, hh]
    simp at this
    omega
  have hov : ∀ o lb cb, (callFunc 46 #[.slice (some ⟨vb, 0, none⟩) 1 vc, .slice (some ⟨b, o, none⟩) lb cb]).run Try.prog w = .ok (.value (.bool false)) w := fun o lb cb => by
    rw [run_callFunc_extern Try.func46 (by kernel_rfl) (by kernel_rfl) (by kernel_rfl) (e := Extern.SlicesOverlaps.overlaps #[31, 31] #[4]) (by kernel_rfl),
      Lib.run_overlaps_apart w 31 4 75 Try.underlying31 2 (fun w => by simp) ⟨vb, 0, none⟩ ⟨b, o, none⟩ 1 vc lb cb hne 75 75 vcur.size cur.size (by simp [World.shape?, hvb]) (by simp [World.shape?, hb]) (by omega) (hfr w vb vcur vfz hvb hvf 0) (hfr w vb vcur vfz hvb hvf _)]
    rfl
  have hw1 : IntKind.i64.wrap ((i : Int) + 1) = (i : Int) + 1 := by rw [IntKind.wrap_i64]; omega
  have hw2 : IntKind.i64.wrap ((n : Int) + 1) = (n : Int) + 1 := by rw [IntKind.wrap_i64]; omega
  have hb1 : (0 : Int) ≤ (i : Int) + 1 := by omega
  have hin : i ≤ n := by omega
  have htn : ((i : Int) + 1).toNat = i + 1 := by omega
  have htn2 : ((n : Int) + 1).toNat = n + 1 := by omega
  have hb2 : ¬ (cap = i + 1) := by omega
  have hb3 : (i : Int) ≤ (n : Int) + 1 := by omega
  have hb4 : ¬ (cap = i) := by omega
  have hb5 : ¬ ((cap : Int) < (n : Int) + 1) := by omega
  have hsz : (Try.prog.info? 75).map (·.size) = some 2 := by kernel_rfl
  have hcl : (cur.toList.take (n * 2)).length = n * 2 := by simp; omega
  generalize hcsd : cur.toList.take (n * 2) = cs at *
  have hcell : ∀ j v, cs[j]? = some v → cur[j]? = some v := fun j v hj => by
    rw [← hcsd, List.getElem?_take] at hj
    split at hj
    · simpa using hj
    · cases hj
  -- the first copy
  have hcp1 : ∀ ty dc sc, (Builtin.copy_ #[31, 31] ty #[.slice (some ⟨b, (i + 1) * 2, none⟩) (n - i) dc, .slice (some ⟨b, i * 2, none⟩) (n + 1 - i) sc]).run Try.prog w.drew = .ok (goInt (n - i : Nat)) (w.drew.setRow b (cur.toList.take ((i + 1) * 2) ++ cs.drop (i * 2) ++ cur.toList.drop ((i + 1) * 2 + (cs.drop (i * 2)).length)).toArray) := fun ty dc sc => by
    have hm : Nat.min (n + 1 - i) (n - i) = n - i := by simp only [Nat.min_def]; split <;> omega
    have := run_copy_block (P := Try.prog) w.drew 31 75 2 Try.underlying31 hsz ty b ((i + 1) * 2) (n - i) dc ⟨b, i * 2, none⟩ (n + 1 - i) sc cur 75 fz (cs.drop (i * 2)) hb (hf.imp id And.left) (by simp [hcl]; omega) (fun v hv => h1 v (List.mem_of_mem_drop hv)) (by rw [hm]; simp [hcl]; omega) (fun j v hj => by
      rw [List.getElem?_drop] at hj
      have := hcell _ _ hj
      rw [Addr.add_lit]
      show World.cell? w _ = _
      simp [World.cell?, hb, this])
    rw [hm] at this
    exact this
  obtain ⟨cur1, hc1⟩ : ∃ c1 : List Value, c1 = cur.toList.take ((i + 1) * 2) ++ cs.drop (i * 2) ++ cur.toList.drop ((i + 1) * 2 + (cs.drop (i * 2)).length) := ⟨_, rfl⟩
  rw [← hc1] at hcp1
  have hl1 : cur1.length = cur.size := by rw [hc1]; simp [hcl]; omega
  obtain ⟨W1, hW1⟩ : ∃ W1, W1 = w.drew.setRow b cur1.toArray := ⟨_, rfl⟩
  rw [← hW1] at hcp1
  have hb1' : W1.heap[b]? = some (.cells cur1.toArray 75 fz) := by rw [hW1]; exact setRow_heap w.drew b cur _ 75 fz hb
  have hvb1 : W1.heap[vb]? = some (.cells vcur 75 vfz) := by rw [hW1, setRow_other w.drew b vb _ hne]; exact hvb
  have hcp2 : ∀ ty dc, (Builtin.copy_ #[31, 31] ty #[.slice (some ⟨b, i * 2, none⟩) (n + 1 - i) dc, .slice (some ⟨vb, 0, none⟩) 1 vc]).run Try.prog W1 = .ok (goInt 1) (W1.setRow b (cur1.take (i * 2) ++ ns ++ cur1.drop (i * 2 + ns.length)).toArray) := fun ty dc => by
    have hm : Nat.min 1 (n + 1 - i) = 1 := by simp only [Nat.min_def]; split <;> omega
    have := run_copy_block (P := Try.prog) W1 31 75 2 Try.underlying31 hsz ty b (i * 2) (n + 1 - i) dc ⟨vb, 0, none⟩ 1 vc cur1.toArray 75 fz ns hb1' (by rw [List.size_toArray, hl1]; exact hf.imp id And.left) (by simp [hl1, hnl]; omega) h1v (by rw [hm, hnl]) (fun j v hj => by
      rw [Addr.add_lit]
      have h2 : vcur[j]? = some v := by
        rw [← hns, List.getElem?_take] at hj
        split at hj
        · simpa using hj
        · cases hj
      simp [World.cell?, hvb1, h2])
    rw [hm] at this
    simpa using this
  have mixed : Try.prog.follows Departure.mixedOrders = true := by kernel_rfl
  have hfin : ∃ cur2 : List Value, W1.setRow b (cur1.take (i * 2) ++ ns ++ cur1.drop (i * 2 + ns.length)).toArray = w.drew.setRow b cur2.toArray ∧ cur2.length = cur.size ∧ cur2.take ((n + 1) * 2) = cs.take (i * 2) ++ ns ++ cs.drop (i * 2) := by
    refine ⟨_, by rw [hW1]; exact setRow_setRow _ _ _ _, by simp [hl1, hnl]; omega, ?_⟩
    have e1 : cur1.take (i * 2) = cs.take (i * 2) := by
      rw [hc1, List.append_assoc, List.take_append_of_le_length (by simp; omega), List.take_take, ← hcsd, List.take_take]
      congr 1; omega
    have e2 : cur1.drop (i * 2 + ns.length) = cs.drop (i * 2) ++ cur.toList.drop ((i + 1) * 2 + (cs.drop (i * 2)).length) := by
      rw [hc1, List.append_assoc, List.drop_append, List.drop_of_length_le (by simp; omega)]
      simp [hnl]; rw [show i * 2 + 2 - min ((i + 1) * 2) cur.size = 0 by omega]; rfl
    rw [e1, e2, ← List.append_assoc, List.take_append_of_le_length (by simp [hcl, hnl]; omega), List.take_of_length_le (by simp [hcl, hnl]; omega)]
  clear hcell hb1' hvb1
  clear hc1 hW1 hl1
  go_enter Try.func34, Try.ntmps34
  go_wp2_with (simp only [hov])
  go_region_law_o (refine step_copy_run rfl _ _ 31 31 rfl _ _ (by simp [Act.eval, Act.put]) (by simp [Act.eval, Act.put]) (hcp1 _ _ _) ?_)
  go_wp2_with (at_builtin; refine wpList_copy_run _ rfl _ _ 31 31 rfl _ _ rfl rfl (hcp2 _ _) ?_)
  go_ret
  rw [hnl, List.append_assoc] at hfin
  exact ⟨rfl, hfin⟩
end road
end Go.Proofs.Ythoooflagabpoaa
