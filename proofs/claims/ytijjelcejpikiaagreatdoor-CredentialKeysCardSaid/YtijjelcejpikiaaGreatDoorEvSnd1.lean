/-
The evaluator's operations that only read are what the machine does.
-/
import Derived.Test.YtijjelcejpikiaaGreatDoorEvRel2
import Derived.Laws.Cells
import Derived.Laws.Slices
set_option linter.unusedVariables false
set_option linter.unusedSimpArgs false
namespace Go.Ev
variable [Globs]
set_option linter.unusedSectionVars false

section run
variable {P : Program} {w : World}
theorem underlying_of_agg {t : TypeId} (h : aggT P t = true) : (∃ fs, P.underlying t = some (.struct fs)) ∨ ∃ m e, P.underlying t = some (.array m e) := by
  unfold aggT at h
  split at h
  · exact .inl ⟨_, ‹_›⟩
  · exact .inr ⟨_, _, ‹_›⟩
  · cases h
theorem run_isAgg_t {t : TypeId} (h : aggT P t = true) : (isAgg t).run P w = .ok true w := by
  rcases underlying_of_agg h with ⟨fs, h⟩ | ⟨m, e, h⟩ <;> simp [isAgg, run_underlying h]
theorem run_isAgg_f {t : TypeId} (h : scalT P t = true) : (isAgg t).run P w = .ok false w := by
  unfold scalT at h
  cases hu : P.underlying t with
  | none => simp [hu] at h
  | some d => cases d <;> simp_all [isAgg, run_underlying hu]
theorem aggT_of_scalT {t : TypeId} (h : scalT P t = true) : aggT P t = false := by
  unfold scalT at h
  unfold aggT
  split at h <;> simp_all
theorem info_of_cells {t : TypeId} (h : 0 < P.cellsOf t) : ∃ i, P.info? t = some i ∧ i.size = P.cellsOf t := by
  unfold Program.cellsOf at h ⊢
  cases hi : P.info? t with
  | none => simp [hi] at h
  | some i => exact ⟨i, rfl, by simp⟩
theorem run_sizeOf {t : TypeId} (h : 0 < P.cellsOf t) : (sizeOf t).run P w = .ok (P.cellsOf t) w := by
  obtain ⟨i, hi, hs⟩ := info_of_cells h
  simp [sizeOf, typeInfo, hi, hs]
theorem run_loadVar_agg {t : TypeId} {b off : Nat} {vs : List Value} (ha : aggT P t = true) (h0 : 0 < P.cellsOf t) (hl : vs.length = P.cellsOf t) (h : CellsAt w b off vs) :
    (loadVar t ⟨b, off, none⟩).run P w = .ok (.agg vs.toArray) w := by
  have := run_loadCells_list (P := P) w ⟨b, off, none⟩ vs (fun j v hj => by rw [Addr.add_lit]; exact h j v hj)
  rw [hl] at this
  simp [loadVar, run_isAgg_t ha, run_sizeOf h0, this]
theorem run_loadVar_scal {t : TypeId} {b off : Nat} {u : Value} (ha : scalT P t = true) (h : w.cell? ⟨b, off, none⟩ = some u) : (loadVar t ⟨b, off, none⟩).run P w = .ok u w := by
  simp [loadVar, run_isAgg_f ha, h]
/-- A part of what lies there is loaded. -/
theorem run_load_part {t : TypeId} {b base off : Nat} {u : Value} {y : PD} {Fz : Nat → Prop} (hc : CellsAt w b base u.cells.toList) (h : PartOf P t Fz w u off y) :
    ∃ v, (loadVar t ⟨b, base + off, none⟩).run P w = .ok v w ∧ RD Fz w y v := by
  rcases h with ⟨ha, h0, hle, hr⟩ | ⟨ha, hs, v, hv, h1, hr⟩
  · refine ⟨_, run_loadVar_agg (vs := (u.cells.extract off (off + P.cellsOf t)).toList) ha h0 (by simp; omega) (fun j v hj => ?_), by rw [Array.toArray_toList]; exact hr⟩
    rw [Nat.add_assoc]
    refine hc (off + j) v ?_
    simp only [Array.toList_extract, List.extract_eq_take_drop, List.getElem?_take, List.getElem?_drop] at hj
    split at hj
    · exact hj
    · cases hj
  · exact ⟨v, run_loadVar_scal hs (hc off v (by simpa using hv)), hr⟩
/-- A part of a value at hand. -/
theorem run_part_of {t : TypeId} {off : Nat} {cs : Array Value} {y : PD} {Fz : Nat → Prop} (h : PartOf P t Fz w (.agg cs) off y) : ∃ v, (part t cs off).run P w = .ok v w ∧ RD Fz w y v := by
  rcases h with ⟨ha, h0, hle, hr⟩ | ⟨ha, hs, v, hv, h1, hr⟩
  · exact ⟨_, by simp [part, run_isAgg_t ha, run_sizeOf h0]; rfl, by simpa [Value.cells] using hr⟩
  · refine ⟨v, ?_, hr⟩
    have : cs[off]? = some v := hv
    simp [part, run_isAgg_f hs, this]
end run

section ops
variable (P : Program)
/-- What is looked up is there. -/
def LookOk (look : Nat → Option Ob) (N : Nat → Prop) (γ : Nat → Value) (Fz : Nat → Prop) (w : World) : Prop := ∀ o ob, look o = some ob → ob.live = true ∧ N o ∧ ObR N γ Fz w (γ o) ob

theorem boolD_sure (d : D) : Sure (boolD d) fun b => ∀ N γ Fz w v, V N γ Fz w d v → v = .bool b := by
  unfold boolD
  split
  · exact .lift fun b hb N γ Fz w v h => (h.inv_pd.bool? hb).2
  · exact .fail
theorem intD_sure (d : D) : Sure (intD d) fun p => ∀ N γ Fz w v, V N γ Fz w d v → v = .int p.1 p.2 := by
  unfold intD
  split
  · refine .lift fun p hp N γ Fz w v h => ?_
    rename_i x
    cases x <;> simp [PD.anyInt?] at hp
    subst hp
    exact h.inv_pd.inv_int
  · exact .fail

theorem getI_some {A : Type} {xs : List A} {i : Int} {y : A} (h : getI xs i = some y) : 0 ≤ i ∧ i.toNat < xs.length ∧ xs[i.toNat]? = some y := by
  unfold getI at h
  split at h
  · exact ⟨‹_›, (List.getElem?_eq_some_iff.1 h).1, h⟩
  · cases h

/-! field, fieldAddr -/
theorem fieldOf_some {s : TypeId} {f : Nat} {fl : Field} (h : fieldOf P s f = some fl) : ∃ fields, P.underlying s = some (.struct fields) ∧ fields[f]? = some fl := by
  unfold fieldOf at h
  split at h
  · exact ⟨_, ‹_›, h⟩
  · cases h
theorem agg_part {N : Nat → Prop} {γ : Nat → Value} {Fz : Nat → Prop} {w : World} {ds : List D} {vs : Array Value} {off n : Nat} (hs : vs.size = ds.length) (ho : ∀ u ∈ vs.toList, OneC u)
    (hv : ∀ i (h : i < ds.length), V N γ Fz w ds[i] (vs.getD i undef)) (hl : ((ds.drop off).take n).length = n) : V N γ Fz w (D.mkAgg ((ds.drop off).take n)) (.agg (vs.extract off (off + n))) := by
  simp at hl
  refine mkAgg_V (by simp; omega) (fun u hu => ho u ?_) fun i hi => ?_
  · simp only [Array.toList_extract, List.extract_eq_take_drop] at hu
    exact List.mem_of_mem_drop (List.mem_of_mem_take hu)
  · simp at hi
    have := hv (off + i) (by omega)
    simp only [List.getElem_take, List.getElem_drop]
    rw [getD_lt _ _ (by omega)] at this
    rw [getD_lt _ _ (by simp; omega)]
    simpa using this
theorem opField_sure (T : TypeId) (x : D) (f : Nat) : Sure (opField P T x f) fun r => ∀ N γ Fz w v, V N γ Fz w x v → ∃ u, (Instr.field T v f).run P w = .ok u w ∧ V N γ Fz w r u := by
  unfold opField
  refine .bindL fun fl hfl => ?_
  obtain ⟨fields, hu, hf⟩ := fieldOf_some P hfl
  split
  · rename_i ds
    refine .ite (fun ha => .iteF fun hl => .pure fun N γ Fz w v h => ?_) fun ha => .iteF fun hs => .lift fun d hd N γ Fz w v h => ?_
    · obtain ⟨vs, rfl, hs, ho, hv⟩ := h.inv_agg
      refine ⟨_, ?_, agg_part hs ho hv hl.1⟩
      simp [Instr.field, run_underlying hu, hf, asAgg, part, run_isAgg_t ha, run_sizeOf hl.2]
    · obtain ⟨vs, rfl, hs', ho, hv⟩ := h.inv_agg
      obtain ⟨hi, rfl⟩ := List.getElem?_eq_some_iff.1 hd
      refine ⟨_, ?_, hv fl.offset hi⟩
      have : vs[fl.offset]? = some (vs.getD fl.offset undef) := by rw [getD_lt _ _ (by omega)]; exact Array.getElem?_eq_getElem (by omega)
      generalize vs.getD fl.offset undef = u at *
      simp [Instr.field, run_underlying hu, hf, asAgg, part, run_isAgg_f hs, this]
  · rename_i xs
    refine .bind (sub_sure P (.agg xs) fl.offset fl.type) fun y' hy' => .pure fun N γ Fz w v h => ?_
    obtain ⟨vs, rfl, _⟩ := h.inv_pd.inv_agg
    obtain ⟨u, hu', hr⟩ := run_part_of (hy' Fz w _ h.inv_pd)
    exact ⟨u, by simp [Instr.field, run_underlying hu, hf, asAgg, hu'], .pd _ _ hr⟩
  · exact .fail
theorem opFieldAddr_sure (T : TypeId) (x : D) (f : Nat) : Sure (opFieldAddr P T x f) fun r => ∀ N γ Fz w v, V N γ Fz w x v → ∃ u, (Instr.fieldAt T v f).run P w = .ok u w ∧ V N γ Fz w r u := by
  unfold opFieldAddr
  refine .bindL fun fl hfl => ?_
  obtain ⟨fields, hu, hf⟩ := fieldOf_some P hfl
  refine .ite (fun _ => .fail) fun h0 => ?_
  have h0 : 0 < P.cellsOf fl.type := by omega
  have key : ∀ (w : World) (b o : Nat), (Instr.fieldAt T (.pointer (some ⟨b, o, none⟩)) f).run P w = .ok (.pointer (some ⟨b, o + fl.offset, none⟩)) w := by
    intro w b o
    have : ¬ P.cellsOf fl.type = 0 := by omega
    simp [Instr.fieldAt, run_underlying hu, hf, Instr.sureAddr, fieldPlace, run_sizeOf h0, this, Addr.add_lit]
  split
  · refine .pure fun N γ Fz w v h => ?_
    obtain ⟨b, hn, hg, rfl⟩ := h.inv_ptr
    exact ⟨_, key w b _, .ptr _ _ b hn hg⟩
  · refine .pure fun N γ Fz w v h => ?_
    obtain ⟨b, n, c, hn, hg, rfl⟩ := h.inv_eptr
    exact ⟨_, key w b _, by rw [Nat.add_assoc]; exact .eptr _ _ _ _ b n c hn hg⟩
  · refine .pure fun N γ Fz w v h => ?_
    obtain ⟨b, base, u, hr, hb, hc, rfl⟩ := h.inv_rptr
    exact ⟨_, key w b _, by rw [Nat.add_assoc]; exact .rptr _ _ b base u hr hb hc⟩
  · exact .fail

/-! rows -/
theorem flat_at {z : Nat} {vs : List Value} (h : ∀ v ∈ vs, v.cells.size = z) : ∀ (i j : Nat) (hi : i < vs.length) (hj : j < z), (vs.flatMap (·.cells.toList))[i * z + j]? = vs[i].cells[j]? := by
  induction vs with
  | nil => intro i j hi; simp at hi
  | cons v vs ih =>
    intro i j hi hj
    have hv : v.cells.size = z := h v (by simp)
    simp only [List.flatMap_cons]
    cases i with
    | zero =>
      rw [List.getElem?_append_left (by simp; omega)]
      simp
    | succ i =>
      rw [List.getElem?_append_right (by simp [hv, Nat.add_mul]; omega)]
      have : (i + 1) * z + j - v.cells.toList.length = i * z + j := by simp [hv, Nat.add_mul]; omega
      rw [this, ih (fun v hv => h v (by simp [hv])) i j (by simpa using hi) hj]
      simp
theorem flat_length {z : Nat} {vs : List Value} (h : ∀ v ∈ vs, v.cells.size = z) : (vs.flatMap (·.cells.toList)).length = vs.length * z := by
  induction vs with
  | nil => simp
  | cons v vs ih =>
    simp only [List.flatMap_cons, List.length_append, List.length_cons]
    rw [ih (fun v hv => h v (by simp [hv]))]
    have := h v (by simp)
    simp [this, Nat.add_mul]
    omega
theorem RowR.length {Fz : Nat → Prop} {w : World} {z : Nat} {x : PD} {cs : List Value} {n : Nat} (h : RowR Fz w z x cs n) : cs.length = n * z ∧ lenOf x = some n := by
  cases x with
  | nums k xs => obtain ⟨rfl, rfl, rfl⟩ := h; simp [lenOf]
  | sl z' xs =>
    obtain ⟨rfl, rfl, vs, hl, rfl, hc, _⟩ := h
    exact ⟨by rw [flat_length fun v hv => (hc v hv).1, hl], rfl⟩
  | _ => exact h.elim
theorem RowR.one {Fz : Nat → Prop} {w : World} {z : Nat} {x : PD} {cs : List Value} {n : Nat} (h : RowR Fz w z x cs n) : ∀ u ∈ cs, OneC u := by
  cases x with
  | nums k xs =>
    obtain ⟨rfl, rfl, rfl⟩ := h
    intro u hu
    obtain ⟨n, _, rfl⟩ := List.mem_map.1 hu
    rfl
  | sl z' xs =>
    obtain ⟨rfl, rfl, vs, hl, rfl, hc, _⟩ := h
    intro u hu
    obtain ⟨v, hv, hu⟩ := List.mem_flatMap.1 hu
    exact (hc v hv).2 u hu
  | _ => exact h.elim
/-- A row that lies in blocks that nobody writes, as pure data. -/
theorem RowR.toRD {Fz Fz' : Nat → Prop} {w : World} {z : Nat} {x : PD} {cs : List Value} {n : Nat} (h : RowR Fz w z x cs n) (hF : ∀ b, Fz b → Fz' b) (a : Addr) (cap : Nat) (hcap : n ≤ cap)
    (hc : 0 < n → a.spot = none ∧ Fz' a.block ∧ CellsAt w a.block a.off cs) : RD Fz' w x (.slice (some a) n cap) := by
  cases x with
  | nums k xs => obtain ⟨rfl, rfl, rfl⟩ := h; exact .nums k xs a cap hcap hc
  | sl z' xs =>
    obtain ⟨rfl, rfl, vs, hl, rfl, hcs, hr⟩ := h
    refine .sl _ xs a cap (fun i => vs.getD i undef) hcap (fun h0 => ⟨(hc h0).1, (hc h0).2.1⟩) (fun i hi => ?_) fun i hi => (hr i hi).mono hF
    have hi' : i < vs.length := by omega
    have hg : vs.getD i undef = vs[i] := by simp [List.getD, hi']
    simp only [hg]
    have hm := hcs vs[i] (List.getElem_mem _)
    refine ⟨hm.1, hm.2, fun j v hj => ?_⟩
    obtain ⟨_, _, hcc⟩ := hc (by omega)
    have hjz : j < z' := by
      have := (List.getElem?_eq_some_iff.1 hj).1
      simp at this
      omega
    have := hcc (i * z' + j) v (by rw [flat_at (fun v hv => (hcs v hv).1) i j hi' hjz]; simpa using hj)
    rw [Nat.add_assoc]
    exact this
  | _ => exact h.elim
theorem RowR.toNil {Fz Fz' : Nat → Prop} {w w' : World} {z : Nat} {x : PD} {cs : List Value} (h : RowR Fz w z x cs 0) : RD Fz' w' x (.slice none 0 0) := by
  cases x with
  | nums k xs => obtain ⟨rfl, hn, rfl⟩ := h; obtain rfl := List.eq_nil_of_length_eq_zero hn.symm; exact .nilNums k
  | sl z' xs => obtain ⟨rfl, hn, _⟩ := h; obtain rfl := List.eq_nil_of_length_eq_zero hn.symm; exact .nilSl _
  | _ => exact h.elim
/-- A slice of pure data, as its raw cells. -/
theorem RD.toRow {Fz : Nat → Prop} {w : World} {x : PD} {v : Value} {n : Nat} (hx : RD Fz w x v) (hl : lenOf x = some n) : ∃ z cs, RowR Fz w z x cs n ∧ (match x with | .sl z' _ => z = z' | _ => True) ∧
    ((v = .slice none 0 0 ∧ n = 0) ∨ ∃ a cap, v = .slice (some a) n cap ∧ n ≤ cap ∧ (0 < n → a.spot = none ∧ Fz a.block ∧ CellsAt w a.block a.off cs)) := by
  cases x with
  | nums k xs =>
    simp only [lenOf, Option.some.injEq] at hl
    subst hl
    refine ⟨1, _, ⟨rfl, rfl, rfl⟩, trivial, ?_⟩
    rcases hx.inv_nums with ⟨rfl, rfl⟩ | ⟨a, cap, rfl, hc, h⟩
    · exact .inl ⟨rfl, rfl⟩
    · exact .inr ⟨a, cap, rfl, hc, h⟩
  | sl z xs =>
    simp only [lenOf, Option.some.injEq] at hl
    subst hl
    rcases hx.inv_sl with ⟨rfl, rfl⟩ | ⟨a, cap, vf, rfl, hc, h, he, hr⟩
    · exact ⟨z, [], ⟨rfl, rfl, [], rfl, rfl, by simp, by simp⟩, rfl, .inl ⟨rfl, rfl⟩⟩
    · have hvs : ∀ i (hi : i < xs.length), ((List.range xs.length).map vf).getD i undef = vf i := by intro i hi; simp [List.getD, hi]
      refine ⟨z, ((List.range xs.length).map vf).flatMap (·.cells.toList), ⟨rfl, rfl, (List.range xs.length).map vf, by simp, rfl, ?_, fun i hi => by rw [hvs i hi]; exact hr i hi⟩, rfl, .inr ⟨a, cap, rfl, hc, fun h0 => ⟨(h h0).1, (h h0).2, ?_⟩⟩⟩
      · intro v hv
        obtain ⟨i, hi, rfl⟩ := List.mem_map.1 hv
        exact ⟨(he i (by simpa using hi)).size, (he i (by simpa using hi)).one⟩
      · intro j v hj
        have hsz : ∀ v ∈ (List.range xs.length).map vf, v.cells.size = z := fun v hv => by
          obtain ⟨i, hi, rfl⟩ := List.mem_map.1 hv
          exact (he i (by simpa using hi)).size
        have hjl : j < xs.length * z := by
          have := (List.getElem?_eq_some_iff.1 hj).1
          rw [flat_length hsz] at this
          simpa using this
        have hz : 0 < z := by
          rcases Nat.eq_zero_or_pos z with h0 | h0
          · subst h0; simp at hjl
          · exact h0
        have hdiv : j / z < xs.length := (Nat.div_lt_iff_lt_mul hz).2 hjl
        have hmod : j % z < z := Nat.mod_lt _ hz
        have hsplit : j / z * z + j % z = j := by rw [Nat.mul_comm]; exact Nat.div_add_mod j z
        have := flat_at hsz (j / z) (j % z) (by simpa using hdiv) hmod
        rw [hsplit] at this
        rw [this] at hj
        have := (he (j / z) hdiv).at_ (j % z) v (by simpa using hj)
        rw [Nat.add_assoc, hsplit] at this
        exact this
  | _ => simp [lenOf] at hl

theorem rowOf_sure (e : TypeId) (x : PD) : Sure (rowOf P e x) fun y => (∃ n, lenOf y = some n) ∧ (∀ z xs, y = .sl z xs → z = P.cellsOf e) ∧ (∀ k xs, y = .nums k xs → P.underlying e = some (.int k) ∧ P.cellsOf e = 1) ∧ (∀ Fz w v, RD Fz w x v → RD Fz w y v) ∧ ((∃ n, lenOf x = some n) → y = x) ∧ 0 < P.cellsOf e := by
  unfold rowOf
  split
  · refine .iteF fun hc => .bindL fun xs hx => .pure ⟨⟨_, rfl⟩, by simp, fun k' xs h => ⟨(PD.nums.inj h).1 ▸ ‹_›, hc⟩, fun Fz w v h => h.nums? hx, fun ⟨n, hn⟩ => ?_, by omega⟩
    cases x <;> simp_all [PD.nums?, lenOf]
  · refine .iteF fun hc => .bindL fun xs hx => .pure ⟨⟨_, rfl⟩, fun z xs h => (PD.sl.inj h).1.symm, by simp, fun Fz w v h => h.sl? hx, fun ⟨n, hn⟩ => ?_, hc⟩
    cases x <;> simp_all [PD.sl?, lenOf]

/-- What a slice holds: its raw cells lie there, its elements in blocks that nobody writes. -/
def Holds (Fz : Nat → Prop) (w : World) (y : PD) (v : Value) : Prop :=
  RD Fz w y v ∨ ∃ z cs n, RowR Fz w z y cs n ∧ ((v = .slice none 0 0 ∧ n = 0) ∨ ∃ a cap, v = .slice (some a) n cap ∧ n ≤ cap ∧ (0 < n → a.spot = none ∧ CellsAt w a.block a.off cs))
theorem OwnRow.cells {w : World} {e : TypeId} {z : Nat} {v : Value} {n : Nat} {cs : List Value} (h : OwnRow w e z v n cs) : (v = .slice none 0 0 ∧ n = 0) ∨
    ∃ b cap, v = .slice (some ⟨b, 0, none⟩) n cap ∧ n ≤ cap ∧ CellsAt w b 0 cs := by
  rcases h.row with h | ⟨b, cap, cur, fz, rfl, hb, _, hn, _, _, ht⟩
  · exact .inl h
  · refine .inr ⟨b, cap, rfl, hn, fun j v hj => ?_⟩
    rw [← ht, List.getElem?_take] at hj
    split at hj
    · simp [World.cell?, hb]
      simpa using hj
    · cases hj
theorem content_sure (look : Nat → Option Ob) (d : D) : Sure (content look d) fun y => ∀ N γ Fz w v, LookOk look N γ Fz w → V N γ Fz w d v → Holds Fz w y v := by
  unfold content
  split
  · exact .pure fun N γ Fz w v _ h => .inl h.inv_pd
  · rename_i o
    refine .bindL fun ob hob => ?_
    split
    · refine .pure fun N γ Fz w v hl h => ?_
      obtain ⟨hn, rfl, h1⟩ := h.inv_ref
      obtain ⟨_, _, n, cs, hr, ho⟩ := hl o _ hob
      refine .inr ⟨_, cs, n, hr, ?_⟩
      rcases ho.cells with h | ⟨b, cap, he, hn, hc⟩
      · exact .inl h
      · exact .inr ⟨_, cap, he, hn, fun _ => ⟨rfl, hc⟩⟩
    · refine .pure fun N γ Fz w v hl h => ?_
      obtain ⟨hn, rfl, h1⟩ := h.inv_ref
      exact .inl (hl o _ hob).2.2.1
    · exact .fail
  · rename_i o lo hi
    refine .bindL fun ob hob => ?_
    split
    · rename_i k m xs
      refine .need fun hm => .pure fun N γ Fz w v hl h => ?_
      have hm := of_decide_eq_true hm
      obtain ⟨b, a, cap, hn, hg, hlo, hcap, ha, rfl⟩ := h.inv_asl
      obtain ⟨_, _, b', E, hg', hb, hxs⟩ := hl o _ hob
      rw [hg] at hg'
      cases hg'
      have hlen : ((xs.take hi).drop lo).length = hi - lo := by simp; omega
      refine .inr ⟨1, _, hi - lo, ⟨rfl, hlen.symm, rfl⟩, .inr ⟨a, cap, rfl, hcap, fun h0 => ?_⟩⟩
      rw [ha (by omega)]
      refine ⟨rfl, fun j v hj => ?_⟩
      simp only [List.getElem?_map, List.getElem?_drop, List.getElem?_take] at hj
      simp only [World.cell?, hb]
      split at hj
      · simpa using hj
      · simp at hj
    · exact .fail
  · exact .fail
/-- The length that the machine tells. -/
theorem Holds.slice {Fz : Nat → Prop} {w : World} {y : PD} {v : Value} {n : Nat} (h : Holds Fz w y v) (hl : lenOf y = some n) : ∃ z cs, RowR Fz w z y cs n ∧
    ((v = .slice none 0 0 ∧ n = 0) ∨ ∃ a cap, v = .slice (some a) n cap ∧ n ≤ cap ∧ (0 < n → a.spot = none ∧ CellsAt w a.block a.off cs)) := by
  rcases h with h | ⟨z, cs, n', hr, h⟩
  · obtain ⟨z, cs, hr, _, h⟩ := h.toRow hl
    refine ⟨z, cs, hr, h.imp id fun ⟨a, cap, h1, h2, h3⟩ => ⟨a, cap, h1, h2, fun h0 => ⟨(h3 h0).1, (h3 h0).2.2⟩⟩⟩
  · have := hr.length.2
    rw [hl] at this
    cases this
    exact ⟨z, cs, hr, h⟩
theorem holds_row {e : TypeId} {x y : PD} {Fz : Nat → Prop} {w : World} {v : Value} (h : Holds Fz w x v) (hxy : ∀ Fz w v, RD Fz w x v → RD Fz w y v)
    (he : (∃ n, lenOf x = some n) → y = x) : Holds Fz w y v := by
  rcases h with h | ⟨z, cs, n, hr, h⟩
  · exact .inl (hxy _ _ _ h)
  · rw [he ⟨n, hr.length.2⟩]
    exact .inr ⟨z, cs, n, hr, h⟩
end ops
end Go.Ev
