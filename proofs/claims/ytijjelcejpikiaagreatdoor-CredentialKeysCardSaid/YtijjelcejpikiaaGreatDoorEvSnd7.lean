/-
One operation: stores.
-/
import Derived.Test.YtijjelcejpikiaaGreatDoorEvSnd6
set_option linter.unusedVariables false
set_option linter.unusedSimpArgs false
namespace Go.Ev
variable [Globs]
set_option linter.unusedSectionVars false
section run
variable (P : Program)
/-- No cell of the row is marked. -/
def FzOk (fz : Nat × Nat) (n : Nat) : Prop := fz.2 ≤ fz.1 ∨ n ≤ fz.1
theorem run_storeCells_row (g o : Nat) (t : TypeId) (fz : Nat × Nat) : ∀ (vs : List Value) (i : Nat) (cur : Array Value) (w : World), w.heap[g]? = some (.cells cur t fz) → FzOk fz cur.size → o + i + vs.length ≤ cur.size → (∀ v ∈ vs, OneC v) →
    (storeCells ⟨g, o, none⟩ vs i).run P w = .ok () (w.setRow g (cur.toList.take (o + i) ++ vs ++ cur.toList.drop (o + i + vs.length)).toArray)
  | [], i, cur, w, hg, _, _, _ => by
    simp only [storeCells, List.append_nil, List.length_nil, Nat.add_zero, List.take_append_drop, Array.toArray_toList]
    rw [setRow_self w g cur t fz hg]
    rfl
  | v :: rest, i, cur, w, hg, hf, hl, h1 => by
    have hi : o + i < cur.size := by simp at hl; omega
    have hadd : (⟨g, o, none⟩ : Addr).add i = ⟨g, o + i, none⟩ := Addr.add_lit _ _ _
    have hcell : w.cell? ⟨g, o + i, none⟩ = some cur[o + i] := by simp [World.cell?, hg, hi]
    have hfro : w.frozen? ⟨g, o + i, none⟩ = false := by
      simp only [World.frozen?, hg]
      rcases hf with hf | hf <;> simp <;> omega
    have hst : (store ((⟨g, o, none⟩ : Addr).add i) v).run P w = .ok () (w.setRow g (cur.setIfInBounds (o + i) v)) := by
      rw [hadd, run_store P w _ v _ (h1 v (by simp)), hcell]
      simp [hfro, setCell_eq_setRow w g (o + i) cur t fz v hg]
    have ih := run_storeCells_row g o t fz rest (i + 1) (cur.setIfInBounds (o + i) v) (w.setRow g (cur.setIfInBounds (o + i) v)) (setRow_heap w g cur _ t _ hg) (by simpa using hf) (by simp at hl ⊢; omega) (fun x hx => h1 x (by simp [hx]))
    simp only [storeCells, Sem.run_bind, hst, Result.andThen_ok, ih, setRow_setRow]
    congr 3
    have e := list_seg_step cur.toList (o + i) v rest (by simp at hl ⊢; omega)
    simpa [Array.toList_setIfInBounds, Nat.add_assoc] using e
theorem run_storeVar_row {w : World} {t : TypeId} {b off : Nat} {v : Value} {cur : Array Value} {E : TypeId} {fz : Nat × Nat} (h0 : 0 < P.cellsOf t) (hs : v.cells.size = P.cellsOf t) (hb : w.heap[b]? = some (.cells cur E fz)) (hf : FzOk fz cur.size)
    (hfit : off + v.cells.size ≤ cur.size) (h1 : ∀ u ∈ v.cells.toList, OneC u) :
    (storeVar t ⟨b, off, none⟩ v).run P w = .ok () (w.setRow b (cur.toList.take off ++ v.cells.toList ++ cur.toList.drop (off + v.cells.size)).toArray) := by
  have := run_storeCells_row P b off E fz v.cells.toList 0 cur w hb hf (by simpa using hfit) h1
  simp only [Nat.add_zero, Array.length_toList] at this
  simp [storeVar, run_sizeOf h0, hs, this]
end run
theorem but_setRow (w : World) (b : Nat) (cs : Array Value) : But w (w.setRow b cs) (some b) := ⟨rfl, rfl, rfl, by simp, fun k _ hk => setRow_other w b k cs fun e => hk (by rw [e])⟩
theorem listD_lt {A : Type} (xs : List A) (d : A) {i : Nat} (h : i < xs.length) : xs.getD i d = xs[i] := by simp [List.getD, h]
theorem splice_getD {A : Type} (d : A) (xs ys : List A) (off : Nat) (h : off + ys.length ≤ xs.length) (i : Nat) : (xs.take off ++ ys ++ xs.drop (off + ys.length)).getD i d = if off ≤ i ∧ i < off + ys.length then ys.getD (i - off) d else xs.getD i d := by
  simp only [List.getD, List.getElem?_append, List.length_append, List.length_take, List.getElem?_take, List.getElem?_drop]
  have : min off xs.length = off := by omega
  rw [this]
  by_cases h1 : i < off
  · simp [h1, show ¬ (off ≤ i) by omega, show i < off + ys.length by omega]
  · by_cases h2 : i < off + ys.length
    · simp [h1, h2, show off ≤ i by omega]
    · simp [h1, h2]
      congr 2
      omega
theorem splice_length {A : Type} (xs ys : List A) (off : Nat) (h : off + ys.length ≤ xs.length) : (xs.take off ++ ys ++ xs.drop (off + ys.length)).length = xs.length := by
  simp; omega

theorem take_splice {A : Type} (cu vs : List A) (p m : Nat) (h : p + vs.length ≤ m) (hm : m ≤ cu.length) : (cu.take p ++ vs ++ cu.drop (p + vs.length)).take m = (cu.take m).take p ++ vs ++ (cu.take m).drop (p + vs.length) := by
  have hA : (cu.take p ++ vs).length = p + vs.length := by simp; omega
  rw [List.take_append, List.take_of_length_le (by omega), hA, List.take_take, List.drop_take, show min p m = p by omega]
theorem set_flat {z : Nat} : ∀ (vs : List Value) (i : Nat) (u : Value), (∀ v ∈ vs, v.cells.size = z) → u.cells.size = z → i < vs.length →
    (vs.set i u).flatMap (·.cells.toList) = (vs.flatMap (·.cells.toList)).take (i * z) ++ u.cells.toList ++ (vs.flatMap (·.cells.toList)).drop (i * z + u.cells.toList.length)
  | [], i, u, _, _, h => by simp at h
  | v :: vs, 0, u, h, hu, _ => by
    have hv := h v (by simp)
    have hl : v.cells.toList.length = u.cells.toList.length := by simp [hv, hu]
    simp only [List.set_cons_zero, List.flatMap_cons, Nat.zero_mul, List.take_zero, List.nil_append, Nat.zero_add]
    rw [← hl, List.drop_left]
  | v :: vs, i + 1, u, h, hu, hi => by
    have hv := h v (by simp)
    have hl : v.cells.toList.length = z := by simp [hv]
    have ih := set_flat vs i u (fun v hv => h v (by simp [hv])) hu (by simpa using hi)
    have e1 : (i + 1) * z = v.cells.toList.length + i * z := by rw [hl, Nat.add_mul]; omega
    simp only [List.set_cons_succ, List.flatMap_cons, ih, e1]
    have ta : v.cells.toList.take (v.cells.toList.length + i * z) = v.cells.toList := List.take_of_length_le (by omega)
    have dr : v.cells.toList.drop (v.cells.toList.length + (i * z + u.cells.toList.length)) = [] := List.drop_eq_nil_of_le (by omega)
    rw [List.take_append, ta, Nat.add_assoc, List.drop_append, dr, List.nil_append, Nat.add_sub_cancel_left, Nat.add_sub_cancel_left]
    simp only [List.append_assoc]
theorem ncells_size {Fz : Nat → Prop} {w : World} {y : PD} {v : Value} {n : Nat} (h : RD Fz w y v) (hn : y.ncells = some n) : v.cells.size = n ∧ ∀ u ∈ v.cells.toList, OneC u := by
  have one : OneC v → some 1 = some n → v.cells.size = n ∧ ∀ u ∈ v.cells.toList, OneC u := fun h1 he => by
    cases he
    rw [cells_one h1]
    exact ⟨rfl, by simpa using h1⟩
  cases y with
  | agg xs => simp [PD.ncells] at hn; subst hn; obtain ⟨vs, rfl, hs, ho, _⟩ := h.inv_agg; exact ⟨by simpa [Value.cells] using hs, ho⟩
  | arr k m xs => simp [PD.ncells] at hn; subst hn; obtain ⟨hl, rfl⟩ := h.inv_arr; exact ⟨by simpa [Value.cells] using hl, by intro u hu; simp [Value.cells] at hu; obtain ⟨n, _, rfl⟩ := hu; rfl⟩
  | opq u =>
    simp only [PD.ncells] at hn
    split at hn
    · cases h.inv_opq; exact one ‹_› hn
    · cases hn
  | bool b => cases h.inv_bool; exact one rfl hn
  | anyb => obtain ⟨b, rfl⟩ := h.inv_anyb; exact one rfl hn
  | int k n => cases h.inv_int; exact one rfl hn
  | str s => cases h.inv_str; exact one rfl hn
  | nums k xs => rcases h.inv_nums with ⟨_, rfl⟩ | ⟨a, cap, rfl, _⟩ <;> exact one rfl hn
  | sl z xs => rcases h.inv_sl with ⟨_, rfl⟩ | ⟨a, cap, vf, rfl, _⟩ <;> exact one rfl hn
theorem RowR.set {Fz : Nat → Prop} {w : World} {z : Nat} {xs : List PD} {cs : List Value} {n i : Nat} {y : PD} {u : Value} (h : RowR Fz w z (.sl z xs) cs n) (hi : i < xs.length) (hu : u.cells.size = z) (h1 : ∀ c ∈ u.cells.toList, OneC c) (hr : RD Fz w y u) :
    RowR Fz w z (.sl z (xs.set i y)) (cs.take (i * z) ++ u.cells.toList ++ cs.drop (i * z + u.cells.toList.length)) n ∧ i * z + u.cells.toList.length ≤ cs.length := by
  obtain ⟨_, rfl, vs, hl, rfl, hcs, hrd⟩ := h
  refine ⟨⟨rfl, by simp, vs.set i u, by simpa using hl, (set_flat vs i u (fun v hv => (hcs v hv).1) hu (by omega)).symm, fun v hv => ?_, fun j hj => ?_⟩, ?_⟩
  · rcases List.mem_or_eq_of_mem_set hv with h | rfl
    · exact hcs v h
    · exact ⟨hu, h1⟩
  · by_cases e : j = i
    · subst e
      simp only [List.getElem_set_self]
      rw [listD_lt _ _ (by simp; omega)]
      simpa using hr
    · simp at hj
      have := hrd j hj
      rw [listD_lt _ _ (by omega)] at this
      rw [listD_lt _ _ (by simp; omega)]
      simpa [List.getElem_set, Ne.symm e] using this
  · rw [flat_length (fun v hv => (hcs v hv).1)]
    have : (i + 1) * z ≤ vs.length * z := Nat.mul_le_mul_right _ (by omega)
    rw [Nat.add_mul] at this
    simp [hu]
    omega
theorem extract_all (cs : Array Value) (n : Nat) (h : cs.size = n) : cs.extract 0 (0 + n) = cs := by
  apply Array.ext'
  simp [Array.toList_extract, List.extract_eq_take_drop]
  exact List.take_of_length_le (by simp; omega)

section ops
variable (P : Program) {o : Oper} {ev : Operand → D} {look : Nat → Option Ob} {fr : Nat}
theorem setEl_sure (e t : TypeId) (i off : Nat) (y x : PD) : Sure (setEl P e t i off y x) fun x' => ∀ Fz w z n cs v, RowR Fz w z x cs n → RD Fz w y v →
    v.cells.size = P.cellsOf t ∧ 0 < P.cellsOf t ∧ (∀ u ∈ v.cells.toList, OneC u) ∧ i * z + off + v.cells.size ≤ cs.length ∧ RowR Fz w z x' (cs.take (i * z + off) ++ v.cells.toList ++ cs.drop (i * z + off + v.cells.size)) n := by
  cases x with
  | nums k xs =>
    simp only [setEl]
    refine .iteF fun hc => .bindL fun n hn => .need fun hi => .pure fun Fz w z m cs v hr hv => ?_
    obtain ⟨rfl, ht⟩ := hc
    have hi := of_decide_eq_true hi
    obtain ⟨rfl, rfl, rfl⟩ := hr
    obtain ⟨_, rfl⟩ := hv.int? hn
    refine ⟨by rw [ht]; rfl, by omega, by simp [Value.cells, OneC, Value.oneCell'], by simp [Value.cells]; omega, rfl, by simp, ?_⟩
    simp only [Value.cells, Nat.mul_one, Nat.add_zero, List.size_toArray, List.length_cons, List.length_nil, Nat.zero_add]
    rw [List.map_set, List.set_eq_take_append_cons_drop, if_pos (by simpa using hi)]
    simp
  | sl z xs =>
    simp only [setEl]
    refine .iteF fun hy => .ite (fun hc => ?_) fun _ => .iteF fun hc => ?_
    · obtain ⟨rfl, hz, hagg⟩ := hc
      refine .bind (sub_sure P y 0 t) fun y' hy' => .need fun hi => .pure fun Fz w z' n cs v hr hv => ?_
      have hi := of_decide_eq_true hi
      obtain rfl : z = z' := hr.1
      obtain ⟨hsz, hone⟩ := ncells_size hv hy.1
      have key : ∃ u : Value, u.cells = v.cells ∧ RD Fz w y' u := by
        rcases hy' Fz w v hv with ⟨_, _, _, hrd⟩ | ⟨hna, hs, u, hu, h1, hrd⟩
        · rw [extract_all _ _ hsz] at hrd
          exact ⟨.agg v.cells, rfl, hrd⟩
        · by_cases hs1 : v.cells.size = 1
          · refine ⟨u, ?_, hrd⟩
            rw [cells_one h1]
            apply Array.ext
            · simpa using hs1.symm
            · intro j hj _
              have : j = 0 := by simpa using hj
              subst this
              have := (Array.getElem?_eq_some_iff.1 hu).2
              simpa using this.symm
          · have := hy.2.2
            rw [hna] at this
            simp at this
            omega
      obtain ⟨u, hu, hrd⟩ := key
      have hset := RowR.set (y := y') (u := u) hr hi (by rw [hu, hsz, hz]) (by rw [hu]; exact hone) hrd
      rw [hu] at hset
      simp only [Array.length_toList, Nat.add_zero] at hset ⊢
      exact ⟨hsz, hy.2.1, hone, hset.2, hset.1⟩
    · obtain ⟨hae, hoff, hcz⟩ := hc
      refine .bindL fun x0 hx0 => .bind (pullsAt_sure _ x0 0) fun c0 hc0 => ?_
      have part : Sure (if aggT P t then (if (cts P 20 t).length = P.cellsOf t then pullsAt (cts P 20 t) y 0 else C.fail) else C.bind (pullAt (ct P t) y 0) fun c => if P.cellsOf t = 1 then C.pure [c] else C.fail)
          (fun ys => ys.length = P.cellsOf t ∧ ∀ Fz w v, RD Fz w y v → ∀ i (h : i < ys.length), CellOf Fz w v i ys[i]) := by
        refine .ite (fun ha => .iteF fun hl => (pullsAt_sure _ y 0).mono fun cs hcs => ⟨hcs.1.trans hl, fun Fz w v hv i hi => by simpa using hcs.2 Fz w v hv i hi⟩) fun ha => .bind (pullAt_sure _ y 0) fun c hc => .iteF fun h1 => .pure ⟨by simp [h1], fun Fz w v hv i hi => ?_⟩
        have : i = 0 := by simpa using hi
        subst this
        exact hc Fz w v hv
      refine .bind part fun ys hys => .pure fun Fz w z' n cs v hr hv => ?_
      obtain rfl : z = z' := hr.1
      obtain ⟨hsz, hone⟩ := ncells_size hv hy.1
      obtain ⟨_, hn, vs, hl, hcs, hvs, hrd⟩ := id hr
      obtain ⟨hi, hx0⟩ := List.getElem?_eq_some_iff.1 hx0
      have hi' : i < vs.length := by omega
      have hel := hrd i hi
      rw [listD_lt _ _ hi', hx0] at hel
      obtain ⟨hez, heo⟩ := hvs vs[i] (List.getElem_mem _)
      generalize he : vs[i] = ev0 at *
      have hyl : ys.length = v.cells.toList.length := by rw [hys.1]; simpa using hsz.symm
      have hev : off + v.cells.toList.length ≤ ev0.cells.toList.length := by simp; omega
      have hc0l : c0.length = z := by rw [hc0.1]; exact hcz
      have hseg : (cs.drop (i * z)).take z = ev0.cells.toList := by
        have h1 := flat_drop vs i (fun v hv => (hvs v hv).1)
        have h2 := flat_take (vs.drop i) 1 (fun v hv => (hvs v (List.mem_of_mem_drop hv)).1)
        rw [hcs, ← h1, show z = 1 * z by simp, ← h2]
        rw [List.drop_eq_getElem_cons hi', he]
        simp
      let u : Value := .agg (ev0.cells.toList.take off ++ v.cells.toList ++ ev0.cells.toList.drop (off + v.cells.toList.length)).toArray
      have hul : u.cells.toList = ev0.cells.toList.take off ++ v.cells.toList ++ ev0.cells.toList.drop (off + v.cells.toList.length) := by simp [u, Value.cells]
      have hulen : u.cells.size = z := by
        have : u.cells.toList.length = ev0.cells.toList.length := by rw [hul, splice_length _ _ _ hev]
        simpa [hez] using this
      have huo : ∀ c ∈ u.cells.toList, OneC c := by
        rw [hul]
        intro c hc
        simp only [List.mem_append] at hc
        rcases hc with (hc | hc) | hc
        · exact heo c (List.mem_of_mem_take hc)
        · exact hone c hc
        · exact heo c (List.mem_of_mem_drop hc)
      have hur : RD Fz w (.agg (c0.take off ++ ys ++ c0.drop (off + ys.length))) u := by
        refine .agg _ _ ?_ huo fun j hj => ?_
        · rw [List.size_toArray, splice_length _ _ _ hev, splice_length _ _ _ (by simp at hev; omega)]
          simp; omega
        · rw [splice_length _ _ _ (by simp at hev; omega)] at hj
          have e1 := splice_getD (PD.bool false) c0 ys off (by simp at hev; omega) j
          have e2 := splice_getD undef ev0.cells.toList v.cells.toList off hev j
          rw [← listD_lt _ (PD.bool false), e1, Array.getD_eq_getD_getElem?, List.getElem?_toArray, ← List.getD, e2, ← hyl]
          split
          · rename_i hin
            obtain ⟨c, hc, _, hrc⟩ := hys.2 Fz w v hv (j - off) (by omega)
            rw [listD_lt _ _ (by omega)]
            have : v.cells.toList.getD (j - off) undef = c := by simp [List.getD, hc]
            rw [this]
            exact hrc
          · obtain ⟨c, hc, _, hrc⟩ := hc0.2 Fz w ev0 hel j hj
            rw [listD_lt _ _ hj]
            have : ev0.cells.toList.getD j undef = c := by simp [List.getD] at hc ⊢; simp [hc]
            rw [this]
            exact hrc
      have hset := RowR.set (y := .agg (c0.take off ++ ys ++ c0.drop (off + ys.length))) (u := u) hr hi hulen huo hur
      have hlen := hset.2
      have hulen' : u.cells.toList.length = z := by simpa using hulen
      rw [hulen'] at hlen
      have hvz : v.cells.toList.length = v.cells.size := by simp
      refine ⟨hsz, hy.2.1, hone, by omega, ?_⟩
      have hsplit : cs = cs.take (i * z) ++ (ev0.cells.toList ++ cs.drop (i * z + z)) := by
        rw [← hseg, ← List.drop_drop, List.take_append_drop, List.take_append_drop]
      have hA : (cs.take (i * z)).length = i * z := by simp; omega
      have hE : ev0.cells.toList.length = z := by simpa using hez
      have hfin : cs.take (i * z) ++ u.cells.toList ++ cs.drop (i * z + u.cells.toList.length) = cs.take (i * z + off) ++ v.cells.toList ++ cs.drop (i * z + off + v.cells.size) := by
        rw [hul, splice_length _ _ _ hev, hE, ← hvz]
        generalize cs.take (i * z) = A at *
        generalize cs.drop (i * z + z) = B at *
        have tA : A.take (i * z + off) = A := List.take_of_length_le (by omega)
        have dA : A.drop (i * z + (off + v.cells.toList.length)) = [] := List.drop_eq_nil_of_le (by omega)
        rw [hsplit, List.take_append, hA, tA, Nat.add_assoc, List.drop_append, dA, hA, Nat.add_sub_cancel_left, Nat.add_sub_cancel_left, List.nil_append]
        rw [List.take_append_of_le_length (by omega), List.drop_append_of_le_length (by omega)]
        simp only [List.append_assoc]
      rw [hfin] at hset
      exact hset.1
  | _ => exact .fail
/-- A variable is written. -/
theorem Rel.writeVar {w0 : World} {F0 W0 N : Nat → Prop} {γ : Nat → Value} {Fz : Nat → Prop} {H : Nat → Option Ob} {w w' : World} (h : Rel w0 F0 W0 N γ Fz H w) (fr i b : Nat) (ob ob' : Ob) (hH : H i = some ob) (ho : ob.own = true) (ho' : ob'.own = true)
    (hb : blkOf (γ i) = some b) (hw : But w w' (some b)) (hob : ObR N γ Fz w' (γ i) ob') : Go1 w0 F0 W0 fr N γ Fz w N γ Fz (upd H i (some ob')) w' := by
  have hN : N i := h.named i ob hH (by cases ob <;> simp_all [Ob.own, Ob.live])
  have eN : (fun j => N j ∨ j = i) = N := by funext j; simp; rintro rfl; exact hN
  have eγ : upd γ i (γ i) = γ := by funext j; simp [upd]; rintro rfl; rfl
  have := h.put (w' := w') fr i ob' (γ i) (fun _ => rfl) (fun hn => absurd hN hn) (by rw [if_pos ho', hb]; exact hw) (fun _ b' hb' => by
    obtain ⟨h1, h2, h3⟩ := h.apart i ob hH ho b' hb'
    exact ⟨h1, h2, fun o' ob2 hne hH' hw2 e => hne (h3 o' ob2 hH' hw2 e)⟩) (by rw [eN, eγ]; exact hob)
  rw [eN, eγ] at this
  exact this
theorem store_sure (t : TypeId) (x y : Operand) (ho : o.op = .store t x y) : Sure (C.bind (opStore P look t (ev x) (ev y)) fun l => C.pure (D.junk, l)) (OpOK P o ev look fr) := by
  have run : ∀ {a : Act} {w w' : World} {b off : Nat}, a.eval x = .pointer (some ⟨b, off, none⟩) → (storeVar t ⟨b, off, none⟩ (a.eval y)).run P w = .ok () w' → (execOp a.eval o).run P w = .ok .skip w' := by
    intro a w w' b off hx hs
    simp [execOp, ho, Instr.storeAt, Instr.sureAddr, hx, hs]
  unfold opStore
  split
  · -- a variable
    rename_i i off hx
    refine .bind (Q := fun l => OpOK P o ev look fr (D.junk, l)) ?_ fun l hl => .pure hl
    refine .bindL fun ob hob => ?_
    split
    · rename_i ds
      refine .bindL fun vs hvs => .iteF fun hc => .pure ?_
      obtain ⟨hn, hp, hfit⟩ := hc
      intro w0 F0 W0 N γ Fz H a w hr hv hl hfr
      have hH := (hl i _ hob).1
      have h1 := hv x
      rw [hx] at h1
      obtain ⟨b, hN, hg, hxe⟩ := h1.inv_ptr
      obtain ⟨b', cs, E, hg', hb, hsz, hone, hcs⟩ := hr.obs i _ hH
      rw [hg] at hg'
      cases hg'
      obtain ⟨hvz, hvo, hvc⟩ := cells_sure hvs (hv y)
      have hst := run_storeVar_row P (w := w) (t := t) (b := b) (off := off) (v := a.eval y) (by omega) (by omega) hb (.inl (Nat.le_refl 0)) (by omega) hvo
      refine .skip (run hxe hst) ⟨N, γ, Fz, ?_, .junk _⟩
      refine hr.writeVar fr i b (.cells ds) (.cells _) hH rfl rfl (by rw [hg]; rfl) (but_setRow w b _) ?_
      refine ⟨b, _, E, hg, setRow_heap w b cs _ E _ hb, ?_, ?_, fun j hj => ?_⟩
      · rw [List.size_toArray, show (a.eval y).cells.size = (a.eval y).cells.toList.length by simp, splice_length _ _ _ (by simp; omega), splice_length _ _ _ (by omega)]
        simpa using hsz
      · intro u hu
        simp only [List.mem_append] at hu
        rcases hu with (hu | hu) | hu
        · exact hone u (List.mem_of_mem_take hu)
        · exact hvo u hu
        · exact hone u (List.mem_of_mem_drop hu)
      · have hw : ∀ {d : D} {v : Value}, V N γ Fz w d v → V N γ Fz (w.setRow b (cs.toList.take off ++ (a.eval y).cells.toList ++ cs.toList.drop (off + (a.eval y).cells.size)).toArray) d v := fun h =>
          h.frame (fun _ h => ⟨h, rfl⟩) (fun _ h => h) fun b' hb' => setRow_other w b b' _ fun e => (hr.apart i _ hH rfl b (by rw [hg]; rfl)).1 (e ▸ hb')
        rw [splice_length _ _ _ (by omega)] at hj
        have e1 := splice_getD D.junk ds vs off (by omega) j
        have e2 := splice_getD undef cs.toList (a.eval y).cells.toList off (by simp; omega) j
        have e1' : (ds.take off ++ vs ++ ds.drop (off + vs.length))[j]'(by rw [splice_length _ _ _ (by omega)]; exact hj) = (ds.take off ++ vs ++ ds.drop (off + vs.length)).getD j D.junk :=
          (listD_lt _ _ _).symm
        have e2' : (cs.toList.take off ++ (a.eval y).cells.toList ++ cs.toList.drop (off + (a.eval y).cells.size)).toArray.getD j undef = (cs.toList.take off ++ (a.eval y).cells.toList ++ cs.toList.drop (off + (a.eval y).cells.toList.length)).getD j undef := by
          simp [Array.getD_eq_getD_getElem?, List.getD]
        rw [e1', e1, e2', e2]
        refine hw ?_
        simp only [Array.length_toList, hvz]
        split
        · rename_i hin
          have hlt : j - off < vs.length := by omega
          have := hvc (j - off) hlt
          simp only [List.getD, List.getElem?_eq_getElem hlt, Option.getD_some]
          rwa [show (a.eval y).cells.toList[j - off]?.getD undef = (a.eval y).cells.getD (j - off) undef by simp [Array.getD_eq_getD_getElem?]]
        · have := hcs j hj
          simp only [List.getD, List.getElem?_eq_getElem hj, Option.getD_some]
          rwa [show cs.toList[j]?.getD undef = cs.getD j undef by simp [Array.getD_eq_getD_getElem?]]
    · rename_i k m xs
      split
      · rename_i k' m' ys hy
        refine .iteF fun hc => .pure ?_
        obtain ⟨rfl, rfl, hn, hp, rfl⟩ := hc
        intro w0 F0 W0 N γ Fz H a w hr hv hl hfr
        have hH := (hl i _ hob).1
        have h1 := hv x
        rw [hx] at h1
        obtain ⟨b, hN, hg, hxe⟩ := h1.inv_ptr
        obtain ⟨b', E, hg', hb, hsz⟩ := hr.obs i _ hH
        rw [hg] at hg'
        cases hg'
        have h2 := hv y
        rw [hy] at h2
        obtain ⟨hl2, hye⟩ := h2.inv_pd.inv_arr
        have hsize : (a.eval y).cells.size = m' := by rw [hye]; simpa [Value.cells] using hl2
        have hst := run_storeVar_row P (w := w) (t := t) (b := b) (off := 0) (v := a.eval y) (by omega) (by omega) hb (.inl (Nat.le_refl 0)) (by rw [hsize]; simp; omega) (by
          rw [hye]; intro u hu; simp [Value.cells] at hu; obtain ⟨n, _, rfl⟩ := hu; rfl)
        refine .skip (run hxe hst) ⟨N, γ, Fz, ?_, .junk _⟩
        refine hr.writeVar fr i b (.ints _ _ xs) (.ints _ _ ys) hH rfl rfl (by rw [hg]; rfl) (but_setRow w b _) ⟨b, E, hg, ?_, hl2⟩
        rw [setRow_heap w b _ _ E _ hb]
        congr 2
        rw [hsize]
        apply Array.ext'
        rw [hye]
        simp only [Value.cells, List.take_zero, List.nil_append, Nat.zero_add]
        rw [List.drop_eq_nil_of_le (by simp; omega), List.append_nil]
      · rename_i z hz hy
        refine .iteF fun hc => .bindL fun n hn => .need fun hoff => .pure ?_
        have hoff := of_decide_eq_true hoff
        intro w0 F0 W0 N γ Fz H a w hr hv hl hfr
        have hH := (hl i _ hob).1
        have h1 := hv x
        rw [hx] at h1
        obtain ⟨b, hN, hg, hxe⟩ := h1.inv_ptr
        obtain ⟨b', E, hg', hb, hsz⟩ := hr.obs i _ hH
        rw [hg] at hg'
        cases hg'
        have h2 := hv y
        rw [hy] at h2
        obtain ⟨_, hye⟩ := h2.inv_pd.int? hn
        have hst := run_storeVar_row P (w := w) (t := t) (b := b) (off := off) (v := a.eval y) (by omega) (by rw [hye, hc]; rfl) hb (.inl (Nat.le_refl 0)) (by rw [hye]; simp [Value.cells]; omega) (by
          rw [hye]; intro u hu; simp [Value.cells] at hu; subst hu; rfl)
        refine .skip (run hxe hst) ⟨N, γ, Fz, ?_, .junk _⟩
        refine hr.writeVar fr i b (.ints k m xs) (.ints k m (xs.set off n)) hH rfl rfl (by rw [hg]; rfl) (but_setRow w b _) ⟨b, E, hg, ?_, by simpa using hsz⟩
        rw [setRow_heap w b _ _ E _ hb]
        congr 2
        apply Array.ext'
        rw [hye]
        simp only [Value.cells, List.size_toArray, List.length_cons, List.length_nil, Nat.zero_add]
        rw [List.map_set, List.set_eq_take_append_cons_drop, if_pos (by simp; omega)]
        simp
      · exact .fail
    · rename_i m bs
      split
      · rename_i z hy
        refine .iteF fun hc => .bindL fun n hn => .need fun hoff => .pure ?_
        have hoff := of_decide_eq_true hoff
        intro w0 F0 W0 N γ Fz H a w hr hv hl hfr
        have hH := (hl i _ hob).1
        have h1 := hv x
        rw [hx] at h1
        obtain ⟨b, hN, hg, hxe⟩ := h1.inv_ptr
        obtain ⟨b', E, hg', hb, hsz⟩ := hr.obs i _ hH
        rw [hg] at hg'
        cases hg'
        have h2 := hv y
        rw [hy] at h2
        obtain ⟨_, hye⟩ := h2.inv_pd.bool? hn
        have hst := run_storeVar_row P (w := w) (t := t) (b := b) (off := off) (v := a.eval y) (by omega) (by rw [hye, hc]; rfl) hb (.inl (Nat.le_refl 0)) (by rw [hye]; simp [Value.cells]; omega) (by
          rw [hye]; intro u hu; simp [Value.cells] at hu; subst hu; rfl)
        refine .skip (run hxe hst) ⟨N, γ, Fz, ?_, .junk _⟩
        refine hr.writeVar fr i b (.flags m bs) (.flags m (bs.set off n)) hH rfl rfl (by rw [hg]; rfl) (but_setRow w b _) ⟨b, E, hg, ?_, by simpa using hsz⟩
        rw [setRow_heap w b _ _ E _ hb]
        congr 2
        apply Array.ext'
        rw [hye]
        simp only [Value.cells, List.size_toArray, List.length_cons, List.length_nil, Nat.zero_add]
        rw [List.map_set, List.set_eq_take_append_cons_drop, if_pos (by simp; omega)]
        simp
      · exact .fail
    · exact .fail
  · -- an element
    rename_i i z j off hx
    refine .bind (Q := fun l => OpOK P o ev look fr (D.junk, l)) ?_ fun l hl => .pure hl
    refine .bindL fun ob hob => ?_
    split
    · rename_i z' e x0
      refine .iteF fun hz => .bind (give_sure look (ev y)) fun p hp => ?_
      obtain ⟨y', l⟩ := p
      subst hz
      refine .ite (fun _ => .fail) fun hk => .bind (setEl_sure P e t j off y' x0) fun x' hx' => .pure ?_
      have hk : i ∉ keysOf l := by simpa using hk
      intro w0 F0 W0 N γ Fz H a w hr hv hl hfr
      have hH := (hl i _ hob).1
      have h1 := hv x
      rw [hx] at h1
      obtain ⟨b, n, c, hN, hg, hxe⟩ := h1.inv_eptr
      obtain ⟨F', hg1, hrd⟩ := GiveOK.now hp fr hr hl (hv y)
      have hH' : applyU H l i = some (.arr z' e x0) := by rw [applyU_other hk]; exact hH
      obtain ⟨n', cs, hrow, hown⟩ := hg1.rel.obs i _ hH'
      obtain ⟨hsz, h0, hone, hfit, hrow'⟩ := hx' F' w z' n' cs _ hrow hrd
      have hlen := hrow.length.1
      rcases hown.row with ⟨he, _⟩ | ⟨b', cap, cur, fz, he, hb, hfz, hnc, hcm, hcs, htake⟩
      · rw [hg] at he; cases he
      · rw [hg] at he
        cases he
        have hle : n * z' ≤ cur.size := by rw [hcs]; exact Nat.mul_le_mul_right _ hnc
        have hst := run_storeVar_row P (w := w) (t := t) (b := b) (off := j * z' + off) (v := a.eval y) h0 hsz hb (hfz.imp id And.left) (by omega) hone
        refine .skip (run hxe hst) ⟨N, γ, F', ?_, .junk _⟩
        have hw := hg1.rel.writeVar (w' := w.setRow b (cur.toList.take (j * z' + off) ++ (a.eval y).cells.toList ++ cur.toList.drop (j * z' + off + (a.eval y).cells.size)).toArray) fr i b (.arr z' e x0) (.arr z' e x') hH' rfl rfl (by rw [hg]; rfl) (but_setRow w b _) ?_
        · simp only [applyU_append, applyU_cons, applyU]
          exact hg1.trans hw
        · have hvl : (a.eval y).cells.toList.length = (a.eval y).cells.size := by simp
          have hcl : cur.toList.length = cur.size := by simp
          refine ⟨n, _, hrow'.frame (fun _ h => h) (fun b' hb' => setRow_other w b b' _ fun e => (hg1.rel.apart i _ hH' rfl b (by rw [hg]; rfl)).1 (e ▸ hb')), ?_, hown.pos, ?_⟩
          · rw [← hvl, splice_length _ _ _ (by omega)]
            exact hlen
          · refine .inr ⟨b, c, _, fz, hg, setRow_heap w b cur _ e fz hb, ?_, hnc, hcm, ?_, ?_⟩
            · rw [List.size_toArray, ← hvl, splice_length _ _ _ (by omega), hcl]
              exact hfz
            · rw [List.size_toArray, ← hvl, splice_length _ _ _ (by omega), hcl]
              exact hcs
            · have hp2 : j * z' + off + (a.eval y).cells.size ≤ n * z' := by omega
              simp only [List.toList_toArray]
              rw [← htake]
              generalize j * z' + off = p at *
              generalize cur.toList = cu at *
              generalize (a.eval y).cells.toList = vs at *
              rw [← hvl] at hp2 ⊢
              exact take_splice cu vs p _ hp2 (by omega)
    · exact .fail
  · exact .bind (Q := fun _ => False) .fail fun l h => h.elim
end ops
end Go.Ev
