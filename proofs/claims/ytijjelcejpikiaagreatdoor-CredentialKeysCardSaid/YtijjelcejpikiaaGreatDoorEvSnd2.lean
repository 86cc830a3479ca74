/-
More operations that only read.
-/
import Derived.Test.YtijjelcejpikiaaGreatDoorEvSnd1
import Derived.Laws.ShiftsVar
set_option linter.unusedVariables false
set_option linter.unusedSimpArgs false
namespace Go.Ev
variable [Globs]
set_option linter.unusedSectionVars false
section ops
variable (P : Program)

/-! load -/
theorem cellsAt_block {w : World} {b : Nat} {cs : Array Value} {E : TypeId} {fz : Nat × Nat} (hb : w.heap[b]? = some (.cells cs E fz)) (off : Nat) (vs : List Value) (h : ∀ j v, vs[j]? = some v → cs[off + j]? = some v) : CellsAt w b off vs :=
  fun j v hj => by simp [World.cell?, hb, h j v hj]
theorem loadOb_sure (t : TypeId) (off : Nat) (ob : Ob) : Sure (loadOb P t off ob) fun r => ∀ N γ Fz w b, ObR N γ Fz w (.pointer (some ⟨b, 0, none⟩)) ob → ∃ u, (loadVar t ⟨b, off, none⟩).run P w = .ok u w ∧ V N γ Fz w r u := by
  cases ob with
  | cells ds =>
    simp only [loadOb]
    refine .ite (fun ha => .iteF fun hl => .pure fun N γ Fz w b h => ?_) fun ha => .iteF fun hs => .lift fun d hd N γ Fz w b h => ?_
    · obtain ⟨b', cs, E, hg, hb, hsz, ho, hv⟩ := h
      cases hg
      refine ⟨_, run_loadVar_agg (vs := (cs.extract off (off + P.cellsOf t)).toList) ha hl.2 ?_ (cellsAt_block hb off _ fun j v hj => ?_), by rw [Array.toArray_toList]; exact agg_part hsz ho hv hl.1⟩
      · have := hl.1
        simp at this ⊢
        omega
      · simp only [Array.toList_extract, List.extract_eq_take_drop, List.getElem?_take, List.getElem?_drop] at hj
        split at hj
        · simpa using hj
        · cases hj
    · obtain ⟨b', cs, E, hg, hb, hsz, ho, hv⟩ := h
      cases hg
      obtain ⟨hi, rfl⟩ := List.getElem?_eq_some_iff.1 hd
      refine ⟨_, run_loadVar_scal hs ?_, hv off hi⟩
      simp only [World.cell?, hb]
      rw [getD_lt _ _ (by omega)]
      simp [hsz, hi]
  | ints k m xs =>
    simp only [loadOb]
    refine .ite (fun ha => ?_) fun ha => .iteF fun hs => .bindL fun n hn => .pure fun N γ Fz w b h => ?_
    · split
      · refine .iteF fun hh => .pure fun N γ Fz w b h => ?_
        obtain ⟨rfl, rfl, hm, h0⟩ := hh
        obtain ⟨b', E, hg, hb, hl⟩ := h
        cases hg
        refine ⟨_, run_loadVar_agg (vs := xs.map (Value.int _)) ha (by omega) (by simp; omega) (cellsAt_block hb 0 _ fun j v hj => by simpa using hj), .pd _ _ (.arr _ _ _ hl)⟩
      · exact .fail
    · obtain ⟨b', E, hg, hb, hl⟩ := h
      cases hg
      exact ⟨.int k n, run_loadVar_scal hs (by simp [World.cell?, hb, hn]), .pd _ _ (.int k n)⟩
  | flags m bs =>
    simp only [loadOb]
    refine .iteF fun hs => .bindL fun n hn => .pure fun N γ Fz w b h => ?_
    obtain ⟨b', E, hg, hb, hl⟩ := h
    cases hg
    exact ⟨.bool n, run_loadVar_scal hs (by simp [World.cell?, hb, hn]), .pd _ _ (.bool n)⟩
  | arr z e x => exact .fail
  | froz x => exact .fail
  | dead => exact .fail
theorem loadEl_sure (t : TypeId) (i off : Nat) (x : PD) : Sure (loadEl P t i off x) fun r => ∀ N γ Fz w z b n cs, RowR Fz w z x cs n → CellsAt w b 0 cs → ∃ u, (loadVar t ⟨b, i * z + off, none⟩).run P w = .ok u w ∧ V N γ Fz w r u := by
  cases x with
  | nums k xs =>
    simp only [loadEl]
    refine .iteF fun hh => .bindL fun n hn => .pure fun N γ Fz w z b m cs hr hc => ?_
    obtain ⟨rfl, hs⟩ := hh
    obtain ⟨rfl, rfl, rfl⟩ := hr
    exact ⟨.int k n, run_loadVar_scal hs (by have := hc i (.int k n) (by simp [hn]); simpa using this), .pd _ _ (.int k n)⟩
  | sl z' xs =>
    simp only [loadEl]
    refine .bindL fun y hy => .bind (sub_sure P y off t) fun y' hy' => .pure fun N γ Fz w z b m cs hr hc => ?_
    obtain ⟨rfl, rfl, vs, hl, rfl, hcs, hrd⟩ := hr
    obtain ⟨hi, rfl⟩ := List.getElem?_eq_some_iff.1 hy
    have hi' : i < vs.length := by omega
    have hd : vs.getD i undef = vs[i] := by simp [List.getD, hi']
    have hel : CellsAt w b (i * z') vs[i].cells.toList := fun j v hj => by
      have hjz : j < z' := by
        have := (List.getElem?_eq_some_iff.1 hj).1
        have h2 := (hcs vs[i] (List.getElem_mem _)).1
        simp at this
        omega
      have := hc (i * z' + j) v (by rw [flat_at (fun v hv => (hcs v hv).1) i j hi' hjz]; simpa using hj)
      simpa using this
    have := hrd i hi
    rw [hd] at this
    obtain ⟨u, hu, hr⟩ := run_load_part hel (hy' Fz w _ this)
    exact ⟨u, hu, .pd _ _ hr⟩
  | _ => exact .fail
theorem opLoad_sure (look : Nat → Option Ob) (t : TypeId) (a : D) : Sure (opLoad P look t a) fun r => ∀ N γ Fz w v, LookOk look N γ Fz w → V N γ Fz w a v → ∃ u, (Instr.loadAt t v).run P w = .ok u w ∧ V N γ Fz w r u := by
  unfold opLoad
  split
  · rename_i o off
    refine .bindL fun ob hob => (loadOb_sure P t off ob).mono fun r hr N γ Fz w v hl h => ?_
    obtain ⟨b, hn, hg, rfl⟩ := h.inv_ptr
    obtain ⟨_, _, ho⟩ := hl o ob hob
    rw [hg] at ho
    obtain ⟨u, hu, hv⟩ := hr N γ Fz w b ho
    exact ⟨u, by simp [Instr.loadAt, Instr.sureAddr, hu], hv⟩
  · rename_i o z i off
    refine .bindL fun ob hob => ?_
    split
    · refine .iteF fun hz => (loadEl_sure P t i off _).mono fun r hr N γ Fz w v hl h => ?_
      subst hz
      obtain ⟨b, n, c, hn, hg, rfl⟩ := h.inv_eptr
      obtain ⟨_, _, n', cs, hrow, hown⟩ := hl o _ hob
      rw [hg] at hown
      rcases hown.cells with ⟨h, _⟩ | ⟨b', cap, he, hle, hc⟩
      · cases h
      · cases he
        obtain ⟨u, hu, hv⟩ := hr N γ Fz w _ b n cs hrow hc
        exact ⟨u, by simp [Instr.loadAt, Instr.sureAddr, hu], hv⟩
    · exact .fail
  · rename_i x off
    refine .bind (sub_sure P x off t) fun y hy => .pure fun N γ Fz w v hl h => ?_
    obtain ⟨b, base, u, hr, hb, hc, rfl⟩ := h.inv_rptr
    obtain ⟨v, hv, hr'⟩ := run_load_part hc (hy Fz w u hr)
    exact ⟨v, by simp [Instr.loadAt, Instr.sureAddr, hv], .pd _ _ hr'⟩
  · exact .fail

/-! indexAddr, index -/
theorem inRange_iff {i : Int} {n : Nat} (h : inRange i n = true) : 0 ≤ i ∧ i < n := by
  simpa [inRange] using h
theorem addN_eq (a b : Nat) : addN a b = a + b := by unfold addN; split <;> simp
theorem mulN_eq (a b : Nat) : mulN a b = a * b := by unfold mulN; split <;> simp
theorem run_index_slice {T e : TypeId} {a : Addr} {len cap : Nat} {k : IntKind} {i : Int} {w : World} (hT : P.underlying T = some (.slice e)) (h0 : 0 ≤ i) (h1 : i < len) (hz : 0 < P.cellsOf e) :
    (Instr.indexAt T (.slice (some a) len cap) (.int k i)).run P w = .ok (.pointer (some (a.add (i.toNat * P.cellsOf e)))) w := by
  simp [Instr.indexAt, run_underlying hT, asIntOf, h0, h1, run_sizeOf hz]
theorem run_index_array {T e : TypeId} {a : Addr} {m : Nat} {k : IntKind} {i : Int} {w : World} (hT : P.underlying T = some (.array m e)) (h0 : 0 ≤ i) (h1 : i < m) (hz : 0 < P.cellsOf e) :
    (Instr.indexAt T (.pointer (some a)) (.int k i)).run P w = .ok (.pointer (some (a.add (i.toNat * P.cellsOf e)))) w := by
  simp [Instr.indexAt, run_underlying hT, asIntOf, Instr.sureAddr, h0, h1, run_sizeOf hz]
theorem add_spot {a : Addr} (h : a.spot = none) (n : Nat) : a.add n = ⟨a.block, a.off + n, none⟩ := by
  cases a
  simp only at h
  subst h
  exact Addr.add_lit _ _ _
theorem elemAt_sure (y : PD) (i : Int) : Sure (elemAt y i) fun r => ∃ n, lenOf y = some n ∧ 0 ≤ i ∧ i < n ∧ ∀ N γ Fz w v, RD Fz w y v → ∀ z, (∀ z' xs, y = .sl z' xs → z' = z) → (∀ k xs, y = .nums k xs → z = 1) →
    ∃ a cap, v = .slice (some a) n cap ∧ a.spot = none ∧ V N γ Fz w r (.pointer (some (a.add (i.toNat * z)))) := by
  cases y with
  | nums k xs =>
    refine .bindL fun n hn => .pure ?_
    obtain ⟨h0, h1, hx⟩ := getI_some hn
    refine ⟨xs.length, rfl, h0, by omega, fun N γ Fz w v h z _ hz => ?_⟩
    obtain rfl := hz k xs rfl
    rcases h.inv_nums with ⟨rfl, _⟩ | ⟨a, cap, rfl, hc, hh⟩
    · simp at h1
    · obtain ⟨hs, hb, hca⟩ := hh (by omega)
      refine ⟨a, cap, rfl, hs, ?_⟩
      rw [add_spot hs, Nat.mul_one, ← Nat.add_zero (a.off + i.toNat)]
      refine .rptr _ 0 a.block _ (.int k n) (.int k n) hb fun j v hj => ?_
      have hj0 : j = 0 := by have := (List.getElem?_eq_some_iff.1 hj).1; simpa [Value.cells] using this
      subst hj0
      have := hca i.toNat (.int k n) (by simp [hx])
      simp [Value.cells] at hj
      subst hj
      simpa using this
  | sl z' xs =>
    refine .bindL fun y hy => .pure ?_
    obtain ⟨h0, h1, hx⟩ := getI_some hy
    refine ⟨xs.length, rfl, h0, by omega, fun N γ Fz w v h z hz _ => ?_⟩
    obtain rfl := hz z' xs rfl
    rcases h.inv_sl with ⟨rfl, _⟩ | ⟨a, cap, vf, rfl, hc, hh, he, hr⟩
    · simp at h1
    · obtain ⟨hs, hb⟩ := hh (by omega)
      refine ⟨a, cap, rfl, hs, ?_⟩
      rw [add_spot hs, ← Nat.add_zero (a.off + i.toNat * z')]
      obtain ⟨hlt, rfl⟩ := List.getElem?_eq_some_iff.1 hx
      exact .rptr _ 0 a.block _ (vf i.toNat) (hr _ hlt) hb (he _ hlt).at_
  | _ => exact .fail
theorem opIndexAddr_sure (look : Nat → Option Ob) (T : TypeId) (x : D) (i : Int) : Sure (opIndexAddr P look T x i) fun r => ∀ N γ Fz w v k, LookOk look N γ Fz w → V N γ Fz w x v → ∃ u, (Instr.indexAt T v (.int k i)).run P w = .ok u w ∧ V N γ Fz w r u := by
  unfold opIndexAddr
  split
  · rename_i e hT
    have row : ∀ y, Sure (C.bind (rowOf P e y) fun y => elemAt y i) fun r => ∀ N γ Fz w v k, RD Fz w y v → ∃ u, (Instr.indexAt T v (.int k i)).run P w = .ok u w ∧ V N γ Fz w r u := by
      intro y
      refine .bind (rowOf_sure P e y) fun y' hy' => (elemAt_sure y' i).mono fun r hr N γ Fz w v k h => ?_
      obtain ⟨n, hn, h0, hlt, hr⟩ := hr
      obtain ⟨a, cap, rfl, hs, hv⟩ := hr N γ Fz w v (hy'.2.2.2.1 Fz w v h) (P.cellsOf e) (fun z' xs hh => hy'.2.1 z' xs hh) (fun k xs hh => (hy'.2.2.1 k xs hh).2)
      exact ⟨_, run_index_slice P hT h0 hlt hy'.2.2.2.2.2, hv⟩
    split
    · rename_i o
      refine .bindL fun ob hob => ?_
      split
      · refine .iteF fun hz => .bindL fun n hn => .need fun hi => .pure fun N γ Fz w v k hl h => ?_
        obtain ⟨hN, rfl, h1⟩ := h.inv_ref
        obtain ⟨_, _, n', cs, hrow, hown⟩ := hl o _ hob
        have := hrow.length.2
        rw [hn] at this
        cases this
        obtain ⟨h0, hlt⟩ := inRange_iff hi
        rcases hown.cells with ⟨_, h⟩ | ⟨b, cap, he, hle, hc⟩
        · omega
        · rw [he]
          refine ⟨_, run_index_slice P hT h0 hlt (hz ▸ hown.pos), ?_⟩
          rw [add_spot rfl, ← Nat.add_zero (0 + _), Nat.zero_add, ← hz]
          exact .eptr o _ _ 0 b _ _ hN he
      · exact (row _).mono fun r hr N γ Fz w v k hl h => by
          obtain ⟨hN, rfl, h1⟩ := h.inv_ref
          exact hr N γ Fz w _ k (hl o _ hob).2.2.1
      · exact .fail
    · rename_i o lo hi
      refine .iteF fun hc => .need fun hi' => .pure fun N γ Fz w v k hl h => ?_
      obtain ⟨b, a, cap, hN, hg, hlo, hcap, ha, rfl⟩ := h.inv_asl
      obtain ⟨h0, hlt⟩ := inRange_iff hi'
      refine ⟨_, run_index_slice P hT h0 hlt (by omega), ?_⟩
      rw [ha (by omega), add_spot rfl, hc, Nat.mul_one, addN_eq]
      exact .ptr o _ b hN hg
    · exact (row _).mono fun r hr N γ Fz w v k hl h => hr N γ Fz w v k h.inv_pd
    · exact .fail
  · rename_i m e hT
    refine .ite (fun _ => .fail) fun hz => ?_
    have hz : 0 < P.cellsOf e := by omega
    split
    · refine .need fun hi => .pure fun N γ Fz w v k hl h => ?_
      obtain ⟨b, hN, hg, rfl⟩ := h.inv_ptr
      obtain ⟨h0, hlt⟩ := inRange_iff hi
      refine ⟨_, run_index_array P hT h0 hlt hz, ?_⟩
      rw [add_spot rfl, addN_eq, mulN_eq]
      exact .ptr _ _ b hN hg
    · refine .need fun hi => .pure fun N γ Fz w v k hl h => ?_
      obtain ⟨b, n, c, hN, hg, rfl⟩ := h.inv_eptr
      obtain ⟨h0, hlt⟩ := inRange_iff hi
      refine ⟨_, run_index_array P hT h0 hlt hz, ?_⟩
      rw [add_spot rfl, addN_eq, mulN_eq, Nat.add_assoc]
      exact .eptr _ _ _ _ b n c hN hg
    · refine .need fun hi => .pure fun N γ Fz w v k hl h => ?_
      obtain ⟨b, base, u, hr, hb, hc, rfl⟩ := h.inv_rptr
      obtain ⟨h0, hlt⟩ := inRange_iff hi
      refine ⟨_, run_index_array P hT h0 hlt hz, ?_⟩
      rw [add_spot rfl, addN_eq, mulN_eq, Nat.add_assoc]
      exact .rptr _ _ b base u hr hb hc
    · exact .fail
  · exact .fail
theorem strI_some {s : ByteArray} {i n : Int} (h : strI s i = some n) : 0 ≤ i ∧ ∃ b, s[i.toNat]? = some b ∧ n = (b.toNat : Int) := by
  unfold strI at h
  split at h
  · obtain ⟨b, hb, rfl⟩ := Option.map_eq_some_iff.1 h
    exact ⟨‹_›, b, hb, rfl⟩
  · cases h
theorem opIndex_sure (T : TypeId) (x : D) (i : Int) : Sure (opIndex P T x i) fun r => ∀ N γ Fz w v k, V N γ Fz w x v → ∃ u, (Instr.index T v (.int k i)).run P w = .ok u w ∧ V N γ Fz w r u := by
  unfold opIndex
  have arr : ∀ (m e : Nat) (y : PD), P.underlying T = some (.array m e) → (∀ Fz w v, RD Fz w y v → ∃ cs, v = .agg cs) →
      Sure (if P.cellsOf e = 0 then C.fail else C.need (inRange i m) (C.bind (sub P y (mulN i.toNat (P.cellsOf e)) e) fun y => C.pure (.pd y))) fun r => ∀ N γ Fz w v k, V N γ Fz w (.pd y) v → ∃ u, (Instr.index T v (.int k i)).run P w = .ok u w ∧ V N γ Fz w r u := by
    intro m e y hT hagg
    refine .ite (fun _ => .fail) fun hz => .need fun hi => .bind (sub_sure P y _ e) fun y' hy' => .pure fun N γ Fz w v k h => ?_
    obtain ⟨cs, rfl⟩ := hagg _ _ _ h.inv_pd
    obtain ⟨h0, hlt⟩ := inRange_iff hi
    have hp := hy' Fz w _ h.inv_pd
    rw [mulN_eq] at hp
    obtain ⟨u, hu, hr⟩ := run_part_of hp
    refine ⟨u, ?_, .pd _ _ hr⟩
    have hn := run_sizeOf (P := P) (w := w) (t := e) (by omega)
    simp [Instr.index, asIntOf, run_underlying hT, h0, hlt, hn, hu]
  split
  · exact arr _ _ _ ‹_› fun Fz w v h => by obtain ⟨vs, rfl, _⟩ := h.inv_agg; exact ⟨_, rfl⟩
  · exact arr _ _ _ ‹_› fun Fz w v h => ⟨_, h.inv_arr.2⟩
  · rename_i hT
    refine .bindL fun s hs => .bindL fun n hn => .pure fun N γ Fz w v k h => ?_
    obtain ⟨h0, b, hb, rfl⟩ := strI_some hn
    obtain ⟨_, rfl⟩ := h.inv_pd.str? hs
    exact ⟨_, by simp [Instr.index, asIntOf, run_underlying hT, h0, hb], .pd _ _ (.int _ _)⟩
  · exact .fail
end ops
end Go.Ev
