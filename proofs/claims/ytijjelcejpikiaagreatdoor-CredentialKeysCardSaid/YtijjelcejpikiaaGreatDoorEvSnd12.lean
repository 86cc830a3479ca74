/-
One operation: struct, array and slice literals.
-/
import Derived.Test.YtijjelcejpikiaaGreatDoorEvSnd11
import Derived.Laws.Tables
set_option linter.unusedVariables false
set_option linter.unusedSimpArgs false
namespace Go.Ev
variable [Globs]
set_option linter.unusedSectionVars false
theorem foldl_set : ∀ (l : List Value) (off k : Nat) (cells : Array Value), off + k + l.length ≤ cells.size →
    (l.zipIdx k).foldl (fun cs (p : Value × Nat) => cs.setIfInBounds (off + p.2) p.1) cells = (cells.toList.take (off + k) ++ l ++ cells.toList.drop (off + k + l.length)).toArray
  | [], off, k, cells, h => by
    apply Array.ext'
    simp
  | v :: l, off, k, cells, h => by
    simp only [List.zipIdx_cons, List.foldl_cons]
    rw [foldl_set l off (k + 1) _ (by simp at h ⊢; omega)]
    apply Array.ext'
    have hlt : off + k < cells.toList.length := by simp at h ⊢; omega
    simp only [Array.toList_setIfInBounds, List.length_cons]
    rw [List.drop_set_of_lt (by omega), show off + (k + 1) = off + k + 1 by omega, List.take_set, List.set_eq_take_append_cons_drop, if_pos (by simp at hlt ⊢; omega)]
    rw [List.take_take, Nat.min_eq_left (by omega), List.drop_take]
    simp
    omega
theorem fill_step (place : Nat → Option (Nat × Nat)) (cells : Array Value) (i off n : Nat) (v : Value) (r : List (Nat × Value)) (hp : place i = some (off, n)) (hn : v.cells.size = n) (hfit : off + n ≤ cells.size) :
    Instr.fill place cells ((i, v) :: r) = Instr.fill place (cells.toList.take off ++ v.cells.toList ++ cells.toList.drop (off + v.cells.size)).toArray r := by
  have hl : v.cells.toList.length = v.cells.size := by simp
  have := foldl_set v.cells.toList off 0 cells (by omega)
  simp only [Nat.add_zero] at this
  rw [Instr.fill]
  simp only [hp]
  rw [if_neg (by simp; omega)]
  congr 1
  rw [hl] at this
  rw [← this, ← Array.foldl_toList]
  simp

def CsV (N : Nat → Prop) (γ : Nat → Value) (Fz : Nat → Prop) (w : World) (ds : List D) (cs : Array Value) : Prop :=
  cs.size = ds.length ∧ (∀ u ∈ cs.toList, OneC u) ∧ ∀ i (h : i < ds.length), V N γ Fz w ds[i] (cs.getD i undef)
theorem CsV.splice {N : Nat → Prop} {γ : Nat → Value} {Fz : Nat → Prop} {w : World} {ds vs : List D} {cs us : Array Value} {off : Nat} (h : CsV N γ Fz w ds cs) (h' : CsV N γ Fz w vs us) (hf : off + vs.length ≤ ds.length) :
    CsV N γ Fz w (spliceD ds off vs) (cs.toList.take off ++ us.toList ++ cs.toList.drop (off + us.size)).toArray := by
  obtain ⟨hsz, hone, hcs⟩ := h
  obtain ⟨hvz, hvo, hvc⟩ := h'
  have hul : us.toList.length = us.size := by simp
  have hcl : cs.toList.length = cs.size := by simp
  refine ⟨?_, ?_, fun j hj => ?_⟩
  · rw [List.size_toArray, ← hul, splice_length _ _ _ (by omega), spliceD, splice_length _ _ _ hf, hcl, hsz]
  · intro u hu
    simp only [List.mem_append] at hu
    rcases hu with (hu | hu) | hu
    · exact hone u (List.mem_of_mem_take hu)
    · exact hvo u hu
    · exact hone u (List.mem_of_mem_drop hu)
  · unfold spliceD at hj ⊢
    have hj0 := hj
    rw [splice_length _ _ _ hf] at hj
    have e1 := splice_getD D.junk ds vs off hf j
    have e2 := splice_getD undef cs.toList us.toList off (by omega) j
    rw [← listD_lt _ D.junk hj0, e1]
    have e2' : (cs.toList.take off ++ us.toList ++ cs.toList.drop (off + us.size)).toArray.getD j undef = (cs.toList.take off ++ us.toList ++ cs.toList.drop (off + us.toList.length)).getD j undef := by
      simp [Array.getD_eq_getD_getElem?, List.getD]
    rw [e2', e2]
    simp only [hul, hvz]
    split
    · rename_i hin
      have hlt : j - off < vs.length := by omega
      have := hvc (j - off) hlt
      simp only [List.getD, List.getElem?_eq_getElem hlt, Option.getD_some]
      rwa [show us.toList[j - off]?.getD undef = us.getD (j - off) undef by simp [Array.getD_eq_getD_getElem?]]
    · have := hcs j hj
      simp only [List.getD, List.getElem?_eq_getElem hj, Option.getD_some]
      rwa [show cs.toList[j]?.getD undef = cs.getD j undef by simp [Array.getD_eq_getD_getElem?]]
section ops
variable (P : Program) {o : Oper} {ev : Operand → D} {look : Nat → Option Ob} {fr : Nat}
theorem buildCells_sure (place : Nat → Option (Nat × Nat)) : ∀ (parts : List (Nat × Operand)) (ds : List D), Sure (buildCells ev place ds parts) fun ds' => ∀ N γ Fz w (ρ : Operand → Value) (cells : Array Value), (∀ x, V N γ Fz w (ev x) (ρ x)) → CsV N γ Fz w ds cells →
    ∃ cells', Instr.fill place cells (parts.map fun p => (p.1, ρ p.2)) = some cells' ∧ CsV N γ Fz w ds' cells'
  | [], ds => .pure fun N γ Fz w ρ cells hv h => ⟨cells, by simp [Instr.fill], h⟩
  | (i, v) :: r, ds => by
    refine .bindL fun p hp => .bindL fun vs hvs => .iteF fun hc => (buildCells_sure place r _).mono fun ds' h N γ Fz w ρ cells hv hcs => ?_
    obtain ⟨off, n⟩ := p
    obtain ⟨rfl, hfit⟩ := hc
    have hvv := cells_sure hvs (hv v)
    obtain ⟨cells', hf, h'⟩ := h N γ Fz w ρ _ hv (hcs.splice (us := (ρ v).cells) hvv hfit)
    refine ⟨cells', ?_, h'⟩
    rw [List.map_cons, fill_step place cells i off vs.length (ρ v) _ hp hvv.1 (by have := hcs.1; omega)]
    exact hf
theorem buildInts_sure (k : IntKind) : ∀ (parts : List (Nat × Operand)) (xs : List Int), Sure (buildInts ev k xs parts) fun ys => ys.length = xs.length ∧ ∀ N γ Fz w (ρ : Operand → Value), (∀ x, V N γ Fz w (ev x) (ρ x)) →
    Instr.fill (fun i => some (i * 1, 1)) (xs.map (Value.int k)).toArray (parts.map fun p => (p.1, ρ p.2)) = some (ys.map (Value.int k)).toArray
  | [], xs => .pure ⟨rfl, fun N γ Fz w ρ hv => by simp [Instr.fill]⟩
  | (i, v) :: r, xs => by
    refine .bind (intD_sure (ev v)) fun p hp => ?_
    obtain ⟨k', n⟩ := p
    refine .iteF fun hc => (buildInts_sure k r _).mono fun ys h => ?_
    obtain ⟨rfl, hi⟩ := hc
    refine ⟨by rw [h.1]; simp, fun N γ Fz w ρ hv => ?_⟩
    have e := hp N γ Fz w _ (hv v)
    simp only at e
    rw [List.map_cons, fill_step _ _ i (i * 1) 1 (ρ v) _ rfl (by rw [e]; rfl) (by simp; omega)]
    rw [← h.2 N γ Fz w ρ hv]
    congr 1
    apply Array.ext'
    simp only [Nat.mul_one, e, Value.cells, List.size_toArray, List.length_cons, List.length_nil, List.toList_toArray]
    rw [List.map_set, List.set_eq_take_append_cons_drop, if_pos (by simpa using hi)]
    simp
theorem zero_CsV {N : Nat → Prop} {γ : Nat → Value} {Fz : Nat → Prop} {w : World} {z : Value} (h : konOk z = true) : CsV N γ Fz w (z.cells.toList.map kon) z.cells := by
  refine ⟨by simp, fun u hu => List.all_eq_true.1 h u hu, fun i hi => ?_⟩
  simp at hi
  simp only [List.getElem_map, Array.getElem_toList]
  rw [getD_lt _ _ hi]
  exact kon_V _
theorem build_sure (T : TypeId) (parts : Array (Nat × Operand)) (ho : o.op = .build T parts) : Sure (opBuild P ev T (partsOf parts)) (ValOK P o ev look) := by
  have exec : ∀ {ρ : Operand → Value} {w : World} {cells : Array Value}, P.built T ((partsOf parts).map fun p => (p.1, ρ p.2)) = some cells → (execOp ρ o).run P w = .ok (.value (.agg cells)) w := by
    intro ρ w cells h
    have : (parts.map fun p => (p.1, ρ p.2)).toList = (partsOf parts).map fun p => (p.1, ρ p.2) := by simp [partsOf]
    rw [← this] at h
    simp [execOp, ho, run_build w T _ cells h]
  unfold opBuild
  refine .bindL fun z hz => ?_
  obtain ⟨it, hit, hz⟩ := Option.bind_eq_some_iff.1 hz
  split
  · rename_i k m hk
    refine .iteF fun hzero => ?_
    split
    · rename_i n e hT
      refine .iteF fun he => .bind (buildInts_sure k _ _) fun xs hxs => .pure fun N γ Fz w ρ hl hv => ?_
      obtain ⟨ie, hie, hi1⟩ := Option.map_eq_some_iff.1 he
      refine ⟨_, exec ?_, .pd _ _ (.arr k m xs (by rw [hxs.1]; simp))⟩
      simp only [Program.built, hit, hT, hz, hie, hi1]
      rw [allZero_eq hzero]
      exact hxs.2 N γ Fz w ρ hv
    · exact .fail
  · refine .iteF fun hkon => ?_
    split
    · rename_i fields hT
      refine .bindL fun pl hpl => .bind (buildCells_sure _ _ _) fun ds hds => .pure fun N γ Fz w ρ hl hv => ?_
      obtain ⟨cells', hf, hcs⟩ := hds N γ Fz w ρ z.cells hv (zero_CsV hkon)
      refine ⟨_, exec (cells := cells') ?_, mkAgg_V hcs.1 hcs.2.1 hcs.2.2⟩
      simp only [Program.built, hit, hT, hz]
      unfold placesOf at hpl
      rw [hpl]
      simpa using hf
    · rename_i n e hT
      refine .bindL fun ie hie => .bind (buildCells_sure _ _ _) fun ds hds => .pure fun N γ Fz w ρ hl hv => ?_
      obtain ⟨cells', hf, hcs⟩ := hds N γ Fz w ρ z.cells hv (zero_CsV hkon)
      refine ⟨_, exec (cells := cells') ?_, mkAgg_V hcs.1 hcs.2.1 hcs.2.2⟩
      simp only [Program.built, hit, hT, hz, hie]
      exact hf
    · exact .fail
theorem lits_sure (e : TypeId) : ∀ (parts : List (Nat × Operand)) (x : PD), Sure (lits P ev look e x parts) fun r => (∀ i ∈ keysOf r.2, ∃ ob, look i = some ob ∧ ob.own = true) ∧
    ∀ (K : List Nat), (∀ i ∈ keysOf r.2, i ∉ K) → ∀ w0 F0 W0 fr N γ Fz H w (ρ : Operand → Value) z n cs, Rel w0 F0 W0 N γ Fz H w → (∀ i ob, look i = some ob → (ob.own = true → i ∉ K) → H i = some ob ∧ ob.live = true) →
      (∀ x, V N γ Fz w (ev x) (ρ x)) → z = P.cellsOf e → RowR Fz w z x cs n →
      ∃ Fz' cs', Go1 w0 F0 W0 fr N γ Fz w N γ Fz' (applyU H r.2) w ∧ Instr.fill (fun i => some (i * z, z)) cs.toArray (parts.map fun p => (p.1, ρ p.2)) = some cs'.toArray ∧ RowR Fz' w z r.1 cs' n
  | [], x => .pure ⟨by simp [keysOf], fun K _ w0 F0 W0 fr N γ Fz H w ρ z n cs hr hl hv hz hrow => ⟨Fz, cs, hr.go fr, by simp [Instr.fill], hrow⟩⟩
  | (i, v) :: r, x => by
    refine .bind (give_sure look (ev v)) fun p hp => .bind (setEl_sure P e e i 0 p.1 x) fun x' hx' => .bind (lits_sure e r x') fun q hq => ?_
    obtain ⟨y, l⟩ := p; obtain ⟨xs, l'⟩ := q
    obtain ⟨hk1, hs1⟩ := hp
    obtain ⟨hk2, hs2⟩ := hq
    refine .iteF fun hd => .pure ⟨fun i hi => ?_, fun K hK w0 F0 W0 fr N γ Fz H w ρ z n cs hr hl hv hz hrow => ?_⟩
    · simp only [keysOf_append, List.mem_append] at hi
      exact hi.elim (hk1 i) (hk2 i)
    · have hdj := disj_iff hd
      obtain ⟨F1, hg1, hr1⟩ := hs1 K (fun i hi => hK i (by simp [keysOf_append, hi])) w0 F0 W0 fr N γ Fz H w _ hr hl (hv v)
      have hrow1 := hrow.frame (Fz' := F1) (w' := w) hg1.ext.fz (fun _ _ => rfl)
      obtain ⟨hsz, h0, hone, hfit, hrow2⟩ := hx' F1 w z n cs _ hrow1 hr1
      obtain ⟨F2, cs', hg2, hf2, hr2⟩ := hs2 (K ++ keysOf l) (fun i hi => by
          simp only [List.mem_append, not_or]
          exact ⟨hK i (by simp [keysOf_append, hi]), fun h => hdj i h hi⟩) w0 F0 W0 fr N γ F1 (applyU H l) w ρ z n _ hg1.rel
        (fun i ob hi hK' => by
          have hik : i ∉ keysOf l := fun h => by
            obtain ⟨ob', hob', how⟩ := hk1 i h
            rw [hi] at hob'
            cases hob'
            exact hK' how (by simp [h])
          rw [applyU_other hik]
          exact hl i ob hi fun ho h => hK' ho (by simp [h]))
        (fun x => V.ext (hv x) hg1.ext) hz hrow2
      refine ⟨F2, cs', ?_, ?_, hr2⟩
      · simp only [applyU_append]
        exact hg1.trans hg2
      · rw [List.map_cons, fill_step _ _ i (i * z) z (ρ v) _ rfl (by omega) (by simp; omega)]
        simpa using hf2
theorem madeRange (zc : Array Value) (n : Nat) : (Array.range n).map (fun x => zc[x % zc.size]!) = madeCells zc n := rfl
theorem buildSlice_sure (T : TypeId) (n : Nat) (parts : Array (Nat × Operand)) (ho : o.op = .buildSlice T n parts) : Sure (opBuildSlice P ev look fr T n (partsOf parts)) (OpOK P o ev look fr) := by
  unfold opBuildSlice
  refine .bindL fun e he => .iteF fun hsmall => .bindL fun x hx => .bind (lits_sure P e _ x) fun q hq => .pure ?_
  obtain ⟨x', l⟩ := q
  have hT := elemT_some P he
  obtain ⟨zv, hzv, hrow⟩ := zeroRow_row P hx
  obtain ⟨i, hi, hz, hisz, hib, hzs, hpos, hbpos, hkon⟩ := zeroE_some P hzv
  intro w0 F0 W0 N γ Fz H a w hr hv hl hfr
  obtain ⟨Fz', cs', hg1, hf, hrow'⟩ := hq.2 [] (by simp) w0 F0 W0 fr N γ Fz H w a.eval _ n _ hr (fun i ob hi _ => hl i ob hi) hv rfl (hrow Fz w)
  have hlen := hrow'.length.1
  have hnz : n ≤ maxLen := by
    have : n * 1 ≤ n * P.cellsOf e := Nat.mul_le_mul_left _ hpos
    simp only [maxLen]; omega
  have hown : OwnRow (w.alloc (.cells cs'.toArray e)) e (P.cellsOf e) (.slice (some ⟨w.heap.size, 0, none⟩) n n) n cs' :=
    ⟨hlen, hpos, .inr ⟨w.heap.size, n, _, (0, 0), rfl, heap_alloc_new w _, .inl (Nat.le_refl 0), Nat.le_refl _, hnz, by simpa using hlen, by
      rw [List.toList_toArray, ← hlen]; exact List.take_length⟩⟩
  obtain ⟨N', γ', hg, hv'⟩ := hg1.rel.newRow fr (hfr fr (Nat.le_refl _) (by omega)) (P.cellsOf e) e x' n cs' _ (but_alloc w _) (one_slice _ _ _) hrow' hown fun b hb => by
    cases hb
    exact hg1.rel.freeNew fr _ rfl
  refine .value (v := .slice (some ⟨w.heap.size, 0, none⟩) n n) (w' := w.alloc (.cells cs'.toArray e)) ?_ ⟨N', γ', Fz', ?_, hv'⟩
  · have hfl := made_flat zv n (P.cellsOf e) hzs hpos
    have hrange : (Array.range (n * P.cellsOf e)).map (fun x => zv.cells[x % zv.cells.size]!) = ((List.replicate n zv).flatMap (·.cells.toList)).toArray := by
      apply Array.ext'
      rw [madeRange, hfl]
    have hparts : (parts.map fun p => (p.1, a.eval p.2)).toList = (partsOf parts).map fun p => (p.1, a.eval p.2) := by simp [partsOf]
    have hs : (sizeOf e).run P w = .ok (P.cellsOf e) w := run_sizeOf hpos
    have hns : ¬ n * P.cellsOf e > 2 ^ 24 := by omega
    have hzv2 : (zeroValue e).run P w = .ok zv w := by simp [zeroValue, typeInfo, hi, hz]
    by_cases hn0 : n * P.cellsOf e = 0
    · have hn : n = 0 := by
        rcases Nat.mul_eq_zero.1 hn0 with h | h
        · exact h
        · omega
      subst hn
      have hf' := hf
      simp only [partsOf, List.replicate_zero, List.flatMap_nil] at hf'
      simp only [execOp, ho, Instr.buildSlice]
      simp [run_underlying hT, hs, hf', newRow, Array.range_zero']
    · have hf' := hf
      rw [← hrange] at hf'
      simp only [partsOf] at hf'
      simp only [execOp, ho, Instr.buildSlice]
      simp [run_underlying hT, hs, hns, hn0, hzv2, hf', newRow]
  · simp only [applyU_append, applyU_cons, applyU]
    exact hg1.trans hg
end ops
end Go.Ev
