/-
One operation: new rows of zeros, conversions, smallest and largest, what only moves values.
-/
import Derived.Test.YtijjelcejpikiaaGreatDoorEvSnd10
set_option linter.unusedVariables false
set_option linter.unusedSimpArgs false
namespace Go.Ev
variable [Globs]
set_option linter.unusedSectionVars false
section ops
variable (P : Program) {o : Oper} {ev : Operand → D} {look : Nat → Option Ob} {fr : Nat}
theorem toList_getElem? {A : Type} (a : Array A) (i : Nat) : a.toList[i]? = a[i]? := by simp
theorem made_flat (v : Value) (n z : Nat) (hz : v.cells.size = z) (h0 : 0 < z) : (madeCells v.cells (n * z)).toList = (List.replicate n v).flatMap (·.cells.toList) := by
  apply List.ext_getElem?
  intro k
  by_cases hk : k < n * z
  · have h1 : k / z < n := Nat.div_lt_of_lt_mul (by rwa [Nat.mul_comm])
    have h2 : k % z < z := Nat.mod_lt _ h0
    have h3 : k = k / z * z + k % z := by rw [Nat.mul_comm]; exact (Nat.div_add_mod k z).symm
    have hf := flat_at (z := z) (vs := List.replicate n v) (by intro u hu; rw [(List.mem_replicate.1 hu).2]; exact hz) (k / z) (k % z) (by simpa using h1) h2
    rw [← h3] at hf
    rw [hf]
    simp [madeCells, hk, hz, Array.getElem?_eq_getElem (show k % z < v.cells.size by omega), getElem!_pos v.cells (k % z) (by omega)]
  · rw [List.getElem?_eq_none, List.getElem?_eq_none]
    · rw [flat_length (z := z) (by intro u hu; rw [(List.mem_replicate.1 hu).2]; exact hz)]
      simp; omega
    · simp [size_madeCells]; omega
theorem konElem_RD {Fz : Nat → Prop} {w : World} {v : Value} (h : konOk v = true) : RD Fz w (konElem v) v := by
  unfold konElem
  split
  · rename_i cs
    refine .agg _ _ (by simp) (fun u hu => List.all_eq_true.1 h u (by simpa [Value.cells] using hu)) fun i hi => ?_
    simp at hi
    simp only [List.getElem_map, Array.getElem_toList]
    rw [getD_lt _ _ hi]
    exact konPD_RD _
  · exact konPD_RD _
theorem zeroRow_row {e : TypeId} {n : Nat} {x : PD} (h : zeroRow P e n = some x) : ∃ v, zeroE P e = some v ∧ ∀ Fz w, RowR Fz w (P.cellsOf e) x ((List.replicate n v).flatMap (·.cells.toList)) n := by
  unfold zeroRow at h
  split at h
  · rename_i k k' he hz
    split at h
    · cases h
      rename_i hk
      subst hk
      obtain ⟨i, _, _, _, _, hs, _, _, _⟩ := zeroE_some P hz
      refine ⟨_, hz, fun Fz w => ⟨hs.symm, by simp, ?_⟩⟩
      simp [Value.cells, List.flatMap_replicate]
    · cases h
  · cases h
  · rename_i v hz _ _
    cases h
    obtain ⟨i, _, _, _, _, hs, _, _, hk⟩ := zeroE_some P hz
    refine ⟨v, hz, fun Fz w => ⟨rfl, by simp, List.replicate n v, by simp, rfl, fun u hu => ?_, fun i hi => ?_⟩⟩
    · rw [(List.mem_replicate.1 hu).2]
      exact ⟨hs, fun c hc => List.all_eq_true.1 hk c hc⟩
    · simp at hi
      simp [List.getD, hi]
      exact konElem_RD hk
  · cases h
/-- A new row. -/
theorem newRow_own {w : World} {e : TypeId} {v : Value} {n cap : Nat} (hs : v.cells.size = P.cellsOf e) (h0 : 0 < P.cellsOf e) (hn : n ≤ cap) (hm : cap ≤ maxLen) (cur : Array Value) (hc : cur.toList = (List.replicate cap v).flatMap (·.cells.toList)) :
    OwnRow (w.alloc (.cells cur e)) e (P.cellsOf e) (.slice (some ⟨w.heap.size, 0, none⟩) n cap) n ((List.replicate n v).flatMap (·.cells.toList)) := by
  have hall : ∀ m, ∀ u ∈ List.replicate m v, u.cells.size = P.cellsOf e := by
    intro m u hu
    rw [(List.mem_replicate.1 hu).2]; exact hs
  refine ⟨?_, h0, .inr ⟨w.heap.size, cap, cur, (0, 0), rfl, heap_alloc_new w _, .inl (Nat.le_refl 0), hn, hm, ?_, ?_⟩⟩
  · rw [flat_length (hall n)]; simp
  · have := flat_length (hall cap)
    rw [← hc] at this
    simpa using this
  · rw [hc, ← flat_take _ _ (hall cap), List.take_replicate, Nat.min_eq_left hn]
theorem makeSlice_sure (T : TypeId) (l c : Operand) (ho : o.op = .makeSlice T l c) : Sure (C.bind (intD (ev l)) fun (_, l) => C.bind (intD (ev c)) fun (_, c) => opMakeSlice P fr T l c) (OpOK P o ev look fr) := by
  refine .bind (intD_sure (ev l)) fun p hp => .bind (intD_sure (ev c)) fun q hq => ?_
  obtain ⟨kl, l'⟩ := p; obtain ⟨kc, c'⟩ := q
  simp only at hp hq ⊢
  unfold opMakeSlice
  refine .bindL fun e he => .need fun hb => .bindL fun x hx => .pure ?_
  simp only [Bool.and_eq_true, decide_eq_true_eq] at hb
  obtain ⟨h0, hlc, hbytes⟩ := hb
  have hT := elemT_some P he
  obtain ⟨zv, hzv, hrow⟩ := zeroRow_row P hx
  obtain ⟨i, hi, hz, hisz, hib, hzs, hpos, hbpos, hkon⟩ := zeroE_some P hzv
  intro w0 F0 W0 N γ Fz H a w hr hv hl hfr
  have hlv := hp _ _ _ _ _ (hv l)
  have hcv := hq _ _ _ _ _ (hv c)
  have hcm : c' ≤ 140737488355328 := by
    have : c' * 1 ≤ c' * (P.bytesOf e : Int) := Int.mul_le_mul_of_nonneg_left (by omega) (by omega)
    omega
  have hrun := run_make (P := P) w T e i zv hT hi hz kl kc l' c' h0 hlc (by rw [hib, Int.mul_comm]; omega) (by omega)
  have hown := newRow_own P (w := w) (e := e) (v := zv) (n := l'.toNat) (cap := c'.toNat) hzs hpos (by omega) (by simp only [maxLen]; omega) (madeCells zv.cells (c'.toNat * i.size)) (by rw [hisz]; exact made_flat zv _ _ hzs hpos)
  obtain ⟨N', γ', hg, hv'⟩ := hr.newRow fr (hfr fr (Nat.le_refl _) (by omega)) (P.cellsOf e) e x _ _ _ (but_alloc w _) (one_slice _ _ _) (hrow Fz w) hown fun b hb => by
    cases hb
    exact hr.freeNew fr _ rfl
  refine .value (v := .slice (some ⟨w.heap.size, 0, none⟩) l'.toNat c'.toNat) (w' := w.alloc (.cells (madeCells zv.cells (c'.toNat * i.size)) e)) ?_ ⟨N', γ', Fz, hg, hv'⟩
  simp [execOp, ho, hlv, hcv, hrun]

/-! conversions -/
theorem run_bytes_string {w : World} {src dst e : TypeId} (hs : P.underlying src = some (.slice e)) (he : P.underlying e = some (.int .u8)) (hd : P.underlying dst = some .string) {v : Value} {xs : List Int}
    (h : (v = .slice none 0 0 ∧ xs = []) ∨ ∃ a cap, v = .slice (some a) xs.length cap ∧ (0 < xs.length → a.spot = none ∧ CellsAt w a.block a.off (xs.map (Value.int .u8)))) : (convert src dst v).run P w = .ok (.string (strOf xs)) w := by
  rcases h with ⟨rfl, rfl⟩ | ⟨a, cap, rfl, hc⟩
  · rw [run_convert_bytes_nil w src e hs he 0 0 dst hd]
    rfl
  · have hl : (loadCells a xs.length).run P w = .ok (xs.map (Value.int .u8)).toArray w := by
      have := run_loadCells_list (P := P) w a (xs.map (Value.int .u8)) (fun j v hj => by
        have hlt : j < xs.length := by simpa using (List.getElem?_eq_some_iff.1 hj).1
        obtain ⟨h1, h2⟩ := hc (by omega)
        rw [add_spot h1]
        exact h2 j v hj)
      simpa using this
    rw [run_convert_bytes_string w src dst e _ _ cap hs he hd, run_bytesToString w _ _ cap xs hl, foldl_push_bytes]
    simp [strOf, ByteArray.empty, ByteArray.emptyWithCapacity]
    rfl
theorem bytesWorld_own (w : World) (e : TypeId) (s : ByteArray) (hs : s.size ≤ 140737488355328) :
    OwnRow (Lib.bytesWorld w e s) e 1 (.slice (some ⟨w.heap.size, 0, none⟩) s.size (grownCap w s.size 0 e)) s.size ((bytesOf s).map (Value.int .u8)) := by
  have hge := grownCap_ge w s.size 0 e
  have hd : s.data.size = s.size := rfl
  refine ⟨by simp [bytesOf_length], by omega, .inr ⟨w.heap.size, _, _, _, rfl, Lib.bytesWorld_at_new w e s, .inr ⟨Nat.le_refl _, rfl⟩, hge, grownCap_le_maxLen w _ _ _ (by simp only [maxLen]; omega), ?_, ?_⟩⟩
  · simp [Lib.bytesCells]; omega
  · simp only [Lib.bytesCells, Array.toList_append, Nat.mul_one]
    rw [List.take_append_of_le_length (by simp [hd]), List.take_of_length_le (by simp [hd])]
    simp only [bytesOf, List.map_map, Array.toList_map]
    rfl
theorem convert_sure (src dst : TypeId) (x : Operand) (ho : o.op = .convert src dst x) : Sure (opConvert P look fr src dst (ev x)) (OpOK P o ev look fr) := by
  have exec : ∀ {ρ : Operand → Value} {w w' : World} {v' : Value}, (convert src dst (ρ x)).run P w = .ok v' w' → (execOp ρ o).run P w = .ok (.value v') w' := by
    intro a w w' v' h
    simp [execOp, ho, h]
  unfold opConvert
  split
  · rename_i k0 k hs hd
    refine .bind (intD_sure (ev x)) fun p hp => .pure (valOK P ?_)
    intro N γ Fz w ρ hl hv
    refine ⟨_, exec (v' := .int k (k.wrap p.2)) (w' := w) ?_, .pd _ _ (.int _ _)⟩
    rw [hp _ _ _ _ _ (hv x)]
    simp [convert, run_underlying hs, run_underlying hd, Conv.intToInt]
  · rename_i hs hd
    split
    · rename_i y hx
      refine .bindL fun s hsv => .pure (valOK P ?_)
      intro N γ Fz w ρ hl hv
      have h1 := hv x
      rw [hx] at h1
      obtain ⟨_, e1⟩ := h1.inv_pd.str? hsv
      refine ⟨_, exec (v' := .string s) (w' := w) ?_, .pd _ _ (.str _)⟩
      rw [e1]
      simp [convert, run_underlying hs, run_underlying hd]
    · exact .fail
  · rename_i e hs hd
    split
    · rename_i y he hx
      refine .bindL fun s hsv => .need fun hb => .pure ?_
      have hb := of_decide_eq_true hb
      intro w0 F0 W0 N γ Fz H a w hr hv hl hfr
      have h1 := hv x
      rw [hx] at h1
      obtain ⟨_, e1⟩ := h1.inv_pd.str? hsv
      have hrun := Lib.run_convert_string_bytes w src dst e s hs hd he
      obtain ⟨N', γ', hg, hv'⟩ := hr.newRow (w' := Lib.bytesWorld w e s) fr (hfr fr (Nat.le_refl _) (by omega)) 1 e (.nums .u8 (bytesOf s)) s.size _ _
        ⟨rfl, rfl, rfl, by rw [Lib.bytesWorld_size]; omega, fun k hk _ => Lib.bytesWorld_at_old w e s k hk⟩ (one_slice _ _ _) ⟨rfl, (bytesOf_length s).symm, rfl⟩ (bytesWorld_own w e s hb) fun b hb => by
          cases hb
          exact hr.freeNew fr _ rfl
      refine .value (exec (by rw [e1]; exact hrun)) ⟨N', γ', Fz, hg, hv'⟩
    · exact .fail
  · rename_i e hs hd
    split
    · rename_i he
      refine .bind (content_sure look (ev x)) fun y hy => .bindL fun xs hxs => .pure (valOK P ?_)
      intro N γ Fz w ρ hl hv
      have hh := holds_row (e := e) (y := .nums .u8 xs) (hy N γ Fz w _ hl (hv x)) (fun Fz w v h => h.nums? hxs) (fun ⟨n, hn⟩ => by
        cases y <;> simp_all [PD.nums?, lenOf])
      obtain ⟨z, cs, hr, h⟩ := hh.slice rfl
      obtain ⟨_, _, rfl⟩ := hr
      refine ⟨_, exec (run_bytes_string P (xs := xs) hs he hd ?_), .pd _ _ (.str _)⟩
      rcases h with ⟨h, h0⟩ | ⟨a, cap, h1, h2, h3⟩
      · exact .inl ⟨h, List.eq_nil_of_length_eq_zero h0⟩
      · exact .inr ⟨a, cap, h1, h3⟩
    · exact .fail
  · exact .fail

/-! smallest, largest -/
theorem minsI_sure (gt : Bool) : ∀ (d : D) (r : List D), Sure (minsI gt d r) fun x => ∀ N γ Fz w v (vs : List Value), V N γ Fz w d v → vs.length = r.length → (∀ i (h : i < r.length), V N γ Fz w r[i] (vs.getD i undef)) →
    ∃ u, (vs.foldlM (if gt then Builtin.max2 else Builtin.min2) v).run P w = .ok u w ∧ RD Fz w x u
  | d, [] => by
    cases d with
    | pd x =>
      refine .pure fun N γ Fz w v vs h hl _ => ⟨v, ?_, h.inv_pd⟩
      obtain rfl : vs = [] := List.eq_nil_of_length_eq_zero hl
      simp
    | _ => exact .fail
  | d, y :: r => by
    cases d with
    | pd x =>
      refine .bindL fun p hp => .bind (intD_sure y) fun q hq => .iteF fun hk => ?_
      obtain ⟨k, a⟩ := p; obtain ⟨k', b⟩ := q
      simp only at hp hq hk ⊢
      subst hk
      refine (minsI_sure gt _ r).mono fun z hz N γ Fz w v vs h hl hv => ?_
      cases vs with
      | nil => simp at hl
      | cons u vs =>
        have e1 : v = .int k' a := by
          have := h.inv_pd
          cases x <;> simp [PD.anyInt?] at hp
          obtain ⟨rfl, rfl⟩ := hp
          exact this.inv_int
        have e2 : u = .int k' b := hq N γ Fz w _ (by have := hv 0 (by simp); simpa using this)
        subst e1 e2
        obtain ⟨t, h1, h2⟩ := hz N γ Fz w _ vs (.pd _ _ (.int _ _)) (by simpa using hl) fun i hi => by
          have := hv (i + 1) (by simpa using hi)
          simpa using this
        refine ⟨t, ?_, h2⟩
        rw [List.foldlM_cons]
        cases gt
        · simp [Builtin.min2] at h1 ⊢
          exact h1
        · simp [Builtin.max2] at h1 ⊢
          exact h1
    | _ => exact .fail
end ops
end Go.Ev
