/-
One operation: copy; append of zero elements.
-/
import Derived.Test.YtijjelcejpikiaaGreatDoorEvSnd11
import Derived.Test.YtijjelcejpikiaaGreatDoorEvSnd12
set_option linter.unusedVariables false
set_option linter.unusedSimpArgs false
namespace Go.Ev
variable [Globs]
set_option linter.unusedSectionVars false
section ops
variable (P : Program) {o : Oper} {ev : Operand → D} {look : Nat → Option Ob} {fr : Nat}
theorem zeroCells_flat (v : Value) (n z : Nat) (hz : v.cells.size = z) (h0 : 0 < z) : (Builtin.zeroCells v.cells n).toList = (List.replicate n v).flatMap (·.cells.toList) := by
  have := made_flat v n z hz h0
  rw [← this]
  simp only [Builtin.zeroCells, madeCells, hz]
set_option maxRecDepth 4000 in
theorem run_append_zeros {w : World} {t u ty e : TypeId} {i : TypeInfo} {zv : Value} {k kx : IntKind} (hT : P.underlying t = some (.slice e)) (hu : P.underlying u = some (.int k)) (hi : P.info? e = some i) (hz : i.zero = some zv)
    (hzs : zv.cells.size = i.size) (hsz : 0 < i.size) (hby : 0 < i.bytes) {v : Value} {n m : Nat} {cs : List Value} (hown : OwnRow w e i.size v n cs) (h1 : ∀ u ∈ (Builtin.zeroCells zv.cells m).toList, OneC u) (hbytes : (n + m) * i.bytes ≤ 140737488355328) :
    ∃ v' w', (Builtin.append_ #[t, u] ty #[v, .int kx m]).run P w = .ok v' w' ∧ OwnRow w' e i.size v' (n + m) (cs ++ (Builtin.zeroCells zv.cells m).toList) ∧ But w w' (blkOf v') ∧ OneC v' ∧ (∀ b, blkOf v' = some b → b = w.heap.size ∨ blkOf v = some b) := by
  have hnm : n + m ≤ 140737488355328 := Nat.le_trans (Nat.le_mul_of_pos_right _ hby) hbytes
  have hmb : m * i.bytes ≤ 140737488355328 := Nat.le_trans (Nat.mul_le_mul_right _ (by omega)) hbytes
  have hq : ∀ q : Nat, q ≤ 140737488355328 → (q : Int) ≤ 140737488355328 := fun q h => by omega
  have hwr : IntKind.i64.wrap (m : Int) = m := by rw [IntKind.wrap_i64]; omega
  have h0m : ¬ ((m : Int) < 0) := by omega
  have ha : ∀ w, (asInt (.int kx m)).run P w = .ok (m : Int) w := fun w => rfl
  have h48z : ¬ (281474976710656 < ((m : Int) * (i.bytes : Int))) := by
    have : ((m * i.bytes : Nat) : Int) ≤ 140737488355328 := hq _ hmb
    rw [Int.natCast_mul] at this
    omega
  generalize hnews : (Builtin.zeroCells zv.cells m).toList = news at h1 ⊢
  have hnl : news.length = m * i.size := by rw [← hnews, Array.length_toList, size_zeroCells, hzs]
  have happ : ∀ w' : World, ((if m * i.size = 0 then pure #[] else do pure (Builtin.zeroCells (← zeroValue e).cells m) : Sem (Array Value))).run P w' = .ok news.toArray w' := fun w' => by
    split
    · rename_i h0
      obtain rfl : news = [] := List.eq_nil_of_length_eq_zero (by omega)
      rfl
    · simp [zeroValue, typeInfo, hi, hz, ← hnews]
  have hlen' : (cs ++ news).length = (n + m) * i.size := by rw [List.length_append, hown.len, hnl, Nat.add_mul]
  have grow : ∀ (old : Nat) (hold : old < n + m), (hs : ∀ w', w'.heap = w.heap → (Builtin.firstCells i.size n v).run P w' = .ok cs.toArray w') → (hv : ∃ a, v = .slice a n old) →
      ∃ v' w', (Builtin.append_ #[t, u] ty #[v, .int kx m]).run P w = .ok v' w' ∧ OwnRow w' e i.size v' (n + m) (cs ++ news) ∧ But w w' (blkOf v') ∧ OneC v' ∧ (∀ b, blkOf v' = some b → b = w.heap.size ∨ blkOf v = some b) := by
    intro old hold hs hv
    obtain ⟨a, rfl⟩ := hv
    have hn : ¬ n + m ≤ old := by omega
    have h63 : ¬ (9223372036854775807 < ((n : Int) + (m : Int))) := by omega
    have h48 : ¬ (281474976710656 < Builtin.nextslicecap (n + m) old * i.bytes) := by have := growslice_fits hold hbytes; omega
    have hb0 : ¬ i.bytes = 0 := by omega
    have hs1 := hs w.drew rfl
    have hx1 := happ w.drew
    refine ⟨.slice (some ⟨w.heap.size, 0, none⟩) (n + m) (grownCap w (n + m) old e), w.drew.alloc (.cells (cs.toArray ++ news.toArray ++ Builtin.zeroCells zv.cells (grownCap w (n + m) old e - (n + m))) e), ?_, ⟨hlen', hsz, .inr ⟨w.heap.size, _, _, (0, 0), rfl, heap_alloc_new w.drew _, .inl (Nat.le_refl 0), grownCap_ge _ _ _ _, grownCap_le_maxLen w _ _ _ (by simp only [maxLen]; omega), ?_, ?_⟩⟩,
      ⟨rfl, rfl, rfl, by simp, fun k hk _ => heap_alloc_old w.drew _ k hk⟩, rfl, fun b hb => ?_⟩
    · simp only [Builtin.append_]
      simp [run_underlying hT, run_underlying hu, sizeOf, typeInfo, zeroValue, hi, hz, hn, h63, h48, hb0, Question.forced, hs1, newRow, grownCap, ha, hwr, h0m, h48z]
      subst hnews
      split
      · rename_i h0
        have : (Builtin.zeroCells zv.cells m).toList = [] := List.eq_nil_of_length_eq_zero (by rw [hnl, h0])
        rw [this, List.append_nil]
      · congr 3
        apply Array.ext'
        simp [List.append_assoc]
    · simp only [Array.size_append, List.size_toArray, size_zeroCells, hzs, hown.len, hnl, ← Nat.add_mul]
      congr 1
      have := grownCap_ge w (n + m) old e
      omega
    · simp only [Array.toList_append, List.append_assoc]
      rw [← List.append_assoc, ← hlen']
      exact List.take_left
    · cases hb; exact .inl rfl
  rcases id hown.row with ⟨rfl, rfl⟩ | ⟨b, cap, cur, fz, rfl, hb, hfz, hnc, hcm, hcs, htake⟩
  · obtain rfl : cs = [] := List.eq_nil_of_length_eq_zero (by simpa using hown.len)
    by_cases hm : m = 0
    · obtain rfl : news = [] := List.eq_nil_of_length_eq_zero (by rw [hnl, hm]; simp)
      refine ⟨.slice none 0 0, w, ?_, ⟨by simp [hm], hsz, .inl ⟨rfl, by omega⟩⟩, But.refl _ _, rfl, by simp [blkOf]⟩
      have hle : m ≤ 0 := by omega
      have hmz : m * i.size = 0 := by rw [hm]; simp
      simp only [Builtin.append_]
      simp [run_underlying hT, run_underlying hu, sizeOf, typeInfo, hi, ha, hwr, h0m, h48z, hle, hmz]
      rw [if_pos hm, hm]
    · exact grow 0 (by omega) (fun w' _ => by simp [Builtin.firstCells]) ⟨none, rfl⟩
  · by_cases hroom : n + m ≤ cap
    · have hfit : n * i.size + news.length ≤ cur.size := by rw [hnl, hcs, ← Nat.add_mul]; exact Nat.mul_le_mul_right _ hroom
      have hst := run_storeCells_row P b (n * i.size) e fz news 0 cur w hb (hfz.imp id And.left) (by simpa using hfit) h1
      have hx := happ w
      simp only [Nat.add_zero] at hst
      refine ⟨.slice (some ⟨b, 0, none⟩) (n + m) cap, w.setRow b (cur.toList.take (n * i.size) ++ news ++ cur.toList.drop (n * i.size + news.length)).toArray, ?_, ⟨hlen', hsz, .inr ⟨b, cap, (cur.toList.take (n * i.size) ++ news ++ cur.toList.drop (n * i.size + news.length)).toArray, fz, rfl, setRow_heap w b cur _ e fz hb, ?_, hroom, hcm, ?_, ?_⟩⟩, but_setRow w b _, rfl, fun b' hb' => .inr hb'⟩
      · simp only [Builtin.append_]
        simp [run_underlying hT, run_underlying hu, sizeOf, typeInfo, zeroValue, hi, hz, hroom, Addr.add_lit, ha, hwr, h0m, h48z]
        subst hnews
        split
        · rename_i h0
          have : (Builtin.zeroCells zv.cells m).toList = [] := List.eq_nil_of_length_eq_zero (by rw [hnl, h0])
          have hs0 : (Builtin.zeroCells zv.cells m).size = 0 := by rw [← Array.length_toList, this]; rfl
          rw [this] at hst
          simp [hst, this, hs0]
        · simp [hst]
      · rw [List.size_toArray, splice_length _ _ _ (by simpa using hfit)]; simpa using hfz
      · rw [List.size_toArray, splice_length _ _ _ (by simpa using hfit)]; simpa using hcs
      · rw [List.toList_toArray, htake, ← hlen']
        exact List.take_left
    · refine grow cap (by omega) (fun w' hw' => ?_) ⟨_, rfl⟩
      have hc : ∀ j v, cs[j]? = some v → w'.cell? ((⟨b, 0, none⟩ : Addr).add j) = some v := by
        intro j v hj
        rw [Addr.add_lit, Nat.zero_add]
        have : w'.heap[b]? = some (.cells cur e fz) := by rw [hw']; exact hb
        rw [← htake, List.getElem?_take] at hj
        simp only [World.cell?, this]
        split at hj
        · simpa using hj
        · cases hj
      exact run_firstCells_some w' i.size n ⟨b, 0, none⟩ n cap cs hown.len hc
theorem run_copy_gen {w : World} {t u ty e : TypeId} {i : TypeInfo} (hT : P.underlying t = some (.slice e)) (hi : P.info? e = some i) {xv : Value} {b off dLen cap m : Nat} {cur : Array Value} {E : TypeId} {fz : Nat × Nat} {news : List Value}
    (hlen : ∀ w, (Builtin.lenOf xv).run P w = .ok m w) (hsrc : (Builtin.firstCells i.size (min m dLen) xv).run P w = .ok news.toArray w) (h1 : ∀ u ∈ news, OneC u) (hb : w.heap[b]? = some (.cells cur E fz)) (hfz : FzOk fz cur.size) (hfit : off + news.length ≤ cur.size) :
    (Builtin.copy_ #[t, u] ty #[.slice (some ⟨b, off, none⟩) dLen cap, xv]).run P w = .ok (.int .i64 ((min m dLen : Nat) : Int)) (w.setRow b (cur.toList.take off ++ news ++ cur.toList.drop (off + news.length)).toArray) := by
  have hst := run_storeCells_row P b off E fz news 0 cur w hb hfz (by simpa using hfit) h1
  simp only [Nat.add_zero] at hst
  have hsrc' : (Builtin.firstCells i.size (m.min dLen) xv).run P w = .ok news.toArray w := hsrc
  simp only [Builtin.copy_]
  simp [run_underlying hT, sizeOf, typeInfo, hi, hlen, hsrc', hst, goInt]
theorem exec_append {sT xT : TypeId} {s x : Operand} (ho : o.op = .call { callee := .builtin .append, args := #[s, x], argTypes := #[sT, xT] }) (a : Act) (w w' : World) (v' : Value) (h : (Builtin.append_ #[sT, xT] o.type #[a.eval s, a.eval x]).run P w = .ok v' w') : (execOp a.eval o).run P w = .ok (.value v') w' := by
  simp [execOp, ho, resolve, invoke, builtin, h]
theorem appendMk_sure (sT xT : TypeId) (s x : Operand) (ho : o.op = .call { callee := .builtin .append, args := #[s, x], argTypes := #[sT, xT] }) (hx : isIntT P xT = true) : Sure (opAppendMk P look fr sT (ev s) (ev x)) (OpOK P o ev look fr) := by
  obtain ⟨k, hu⟩ : ∃ k, P.underlying xT = some (.int k) := by
    unfold isIntT at hx
    split at hx
    · exact ⟨_, ‹_›⟩
    · cases hx
  unfold opAppendMk
  refine .bindL fun e he => .bindL fun zv hzv => .bind (intD_sure (ev x)) fun p hp => .need fun hl0 => .bindL fun y hy => ?_
  obtain ⟨kx, l⟩ := p
  simp only [Bool.and_eq_true, decide_eq_true_eq] at hl0
  obtain ⟨m, rfl⟩ := Int.eq_ofNat_of_zero_le hl0.1
  have hT := elemT_some P he
  obtain ⟨i, hi, hz, hisz, hib, hzs, hpos, hbpos, hkon⟩ := zeroE_some P hzv
  obtain ⟨zv', hzv', hrowz⟩ := zeroRow_row P hy
  rw [hzv] at hzv'
  cases hzv'
  simp only [Int.toNat_natCast] at hrowz
  have hflat := zeroCells_flat zv m i.size (by omega) (by omega)
  have hrow2 : ∀ (Fz : Nat → Prop) (w : World), RowR Fz w (P.cellsOf e) y (Builtin.zeroCells zv.cells m).toList m := fun Fz w => by rw [hflat]; exact hrowz Fz w
  split
  · rename_i i0 hs
    refine .bindL fun ob hob => ?_
    split
    · rename_i z' e' x0
      refine .bindL fun x1 hx1 => .bindL fun n1 hn1 => .iteF fun hee => .need fun hbytes => .pure ?_
      obtain ⟨rfl, rfl⟩ := hee
      have hbytes := of_decide_eq_true hbytes
      intro w0 F0 W0 N γ Fz H a w hr hv hl hfr
      have h1 := hv s
      rw [hs] at h1
      obtain ⟨hN, hsv, hone⟩ := h1.inv_ref
      have hH := (hl i0 _ hob).1
      obtain ⟨n, cs, hrow, hown⟩ := hr.obs i0 _ hH
      have hrow3 := hrow.put (hrow2 Fz w) hx1
      have hnm : n1 = n + m := hrow3.unique hn1
      rw [hnm, ← hib] at hbytes
      have hone2 := (hrow2 Fz w).one
      rw [← hisz] at hown hrow3
      obtain ⟨v', w', hrun, hown', hbut, hone', hblk⟩ := run_append_zeros P (kx := kx) hT hu hi hz (by omega) (by omega) (by omega) (ty := o.type) hown hone2 hbytes
      rw [← hsv, ← hp N γ Fz w _ (hv x)] at hrun
      have hk := hr.kill fr i0 hN
      obtain ⟨N', γ', hg, hv'⟩ := hk.rel.newRow fr (hfr fr (Nat.le_refl _) (by omega)) _ _ x1 _ _ v' hbut hone' hrow3 hown' fun b hb => by
        rcases hblk b hb with hb' | hb'
        · exact hk.rel.freeNew fr b hb'
        · obtain ⟨h2, h3, h4⟩ := hr.apart i0 _ hH rfl b hb'
          refine ⟨h2, h3, fun o' ob' hne hH' hw hb2 => ?_⟩
          by_cases e : o' = i0
          · subst e
            rw [upd_same] at hH'
            cases hH'
            cases hw
          · rw [upd_other _ _ e] at hH'
            exact e (h4 o' ob' hH' hw hb2)
      refine .value (exec_append P ho a w w' v' hrun) ⟨N', γ', Fz, ?_, hv'⟩
      simp only [applyU_cons, applyU]
      rw [hisz] at hg
      exact hk.trans hg
    · exact .fail
  · rename_i hs
    refine .bindL fun n1 hn1 => .need fun hbytes => .pure ?_
    have hbytes := of_decide_eq_true hbytes
    intro w0 F0 W0 N γ Fz H a w hr hv hl hfr
    have h1 := hv s
    rw [hs] at h1
    have hsv := h1.inv_pd.inv_opq
    have hrow3 := hrow2 Fz w
    have hnm : n1 = m := hrow3.unique hn1
    rw [hnm, ← hib] at hbytes
    have hone2 := hrow3.one
    rw [← hisz] at hrow3
    obtain ⟨v', w', hrun, hown', hbut, hone', hblk⟩ := run_append_zeros P (kx := kx) hT hu hi hz (by omega) (by omega) (by omega) (ty := o.type) (w := w) (v := .slice none 0 0) (n := 0) (cs := []) ⟨by simp, by omega, .inl ⟨rfl, rfl⟩⟩ hone2 (by simpa using hbytes)
    rw [← hsv, ← hp N γ Fz w _ (hv x)] at hrun
    rw [Nat.zero_add, List.nil_append] at hown'
    obtain ⟨N', γ', hg, hv'⟩ := hr.newRow fr (hfr fr (Nat.le_refl _) (by omega)) _ _ y _ _ v' hbut hone' hrow3 hown' fun b hb => by
      rcases hblk b hb with hb' | hb'
      · exact hr.freeNew fr b hb'
      · cases hb'
    refine .value (exec_append P ho a w w' v' hrun) ⟨N', γ', Fz, ?_, hv'⟩
    simp only [applyU_cons, applyU]
    rw [hisz] at hg
    exact hg
  · exact .fail
theorem append2_sure (sT xT : TypeId) (s x : Operand) (ho : o.op = .call { callee := .builtin .append, args := #[s, x], argTypes := #[sT, xT] }) : Sure (opAppend2 P look fr sT xT (ev s) (ev x)) (OpOK P o ev look fr) := by
  unfold opAppend2
  split
  · rename_i h
    exact appendMk_sure P sT xT s x ho h
  · exact append_sure P sT xT s x ho
theorem exec_copy {dT xT : TypeId} {d x : Operand} (ho : o.op = .call { callee := .builtin .copy, args := #[d, x], argTypes := #[dT, xT] }) (a : Act) (w w' : World) (v' : Value) (h : (Builtin.copy_ #[dT, xT] o.type #[a.eval d, a.eval x]).run P w = .ok v' w') : (execOp a.eval o).run P w = .ok (.value v') w' := by
  simp [execOp, ho, resolve, invoke, builtin, h]
theorem copy_sure (dT xT : TypeId) (d x : Operand) (ho : o.op = .call { callee := .builtin .copy, args := #[d, x], argTypes := #[dT, xT] }) : Sure (opCopy P look dT xT (ev d) (ev x)) (OpOK P o ev look fr) := by
  unfold opCopy
  refine .bindL fun e he => .bind (srcOf_sure P e xT (ev x)) fun y hy => .bindL fun m hm => ?_
  have hT := elemT_some P he
  obtain ⟨hyd, hyl, src⟩ := hy
  split
  · rename_i i0 hs
    refine .bindL fun ob hob => ?_
    split
    · rename_i z e' x0
      refine .bindL fun n hn => .bindL fun y1 hy1 => .bindL fun x1 hx1 => .bindL fun x2 hx2 => .iteF fun hc => .pure ?_
      obtain ⟨rfl, rfl, hpos⟩ := hc
      obtain ⟨i, hi, hisz⟩ := info_of_cells hpos
      intro w0 F0 W0 N γ Fz H a w hr hv hl hfr
      have h1 := hv d
      rw [hs] at h1
      obtain ⟨hN, hsv, hone⟩ := h1.inv_ref
      have hH := (hl i0 _ hob).1
      obtain ⟨n', cs, hrow, hown⟩ := hr.obs i0 _ hH
      obtain rfl := hrow.unique hn
      obtain ⟨m', news, hm', hrow2, hlen, _, hfirst⟩ := src N γ Fz w _ (lookOk hr hl) (hv x)
      obtain rfl : m = m' := by rw [hm] at hm'; exact Option.some.inj hm'
      have hle1 : min m n ≤ m := Nat.min_le_left _ _
      have hle2 : min m n ≤ n := Nat.min_le_right _ _
      have c1 := hrow2.cut hy1 (Int.le_refl 0) (by omega) (by omega)
      have c2 := hrow.cut hx1 (by omega) (by omega) (Int.le_refl _)
      have c3 := c1.put c2 hx2
      simp only [Int.toNat_zero, Int.toNat_natCast, Nat.sub_zero, Nat.zero_mul, List.drop_zero] at c3
      rw [List.take_of_length_le (l := cs) (by rw [hown.len]; exact Nat.le_refl _), show min m n + (n - min m n) = n by omega] at c3
      have hf := hfirst (min m n) hle1 w rfl
      have hl1 : (news.take (min m n * P.cellsOf e')).length = min m n * P.cellsOf e' := by
        rw [List.length_take, hrow2.length.1]
        exact Nat.min_eq_left (Nat.mul_le_mul_right _ hle1)
      have hl2 : cs.length = n * P.cellsOf e' := hown.len
      have h1n : ∀ u ∈ news.take (min m n * P.cellsOf e'), OneC u := fun u hu => hrow2.one u (List.mem_of_mem_take hu)
      have hle3 : min m n * P.cellsOf e' ≤ n * P.cellsOf e' := Nat.mul_le_mul_right _ hle2
      rcases id hown.row with ⟨eg, e0⟩ | ⟨b, cap, cur, fz, eg, hb, hfz, hnc, hcm, hcs, htake⟩
      · have hrun : (Builtin.copy_ #[dT, xT] o.type #[a.eval d, a.eval x]).run P w = .ok (.int .i64 ((min m n : Nat) : Int)) w := by
          have hmin : m.min n = min m n := rfl
          rw [hsv, eg]
          rw [e0] at hf hmin ⊢
          simp only [Builtin.copy_]
          simp only [Nat.min_zero] at hf
          simp [run_underlying hT, sizeOf, typeInfo, hi, hlen, hisz, hf, goInt, hmin]
        refine .value (exec_copy P ho a w w _ hrun) ⟨N, γ, Fz, ?_, .pd _ _ (.int _ _)⟩
        have := hr.put (w' := w) fr i0 (.arr (P.cellsOf e') e' x2) (γ i0) (fun _ => rfl) (fun h => absurd hN h) (But.refl _ _) (fun h => ?_) ⟨n, _, c3, ?_⟩
        · have eN : (fun j => N j ∨ j = i0) = N := by funext j; simp; rintro rfl; exact hN
          have eγ : upd γ i0 (γ i0) = γ := by funext j; simp [upd]; rintro rfl; rfl
          rw [eN, eγ] at this
          simp only [applyU_cons, applyU]
          exact this
        · intro b hb; rw [eg] at hb; cases hb
        · subst e0
          refine ⟨?_, hown.pos, .inl ⟨eg, rfl⟩⟩
          have := c3.length.1
          simpa using this
      · have hcl : cur.size = cap * P.cellsOf e' := hcs
        have hfit : 0 + (news.take (min m n * P.cellsOf e')).length ≤ cur.size := by
          rw [hl1, hcs, Nat.zero_add]
          exact Nat.le_trans hle3 (Nat.mul_le_mul_right _ hnc)
        have hrun := run_copy_gen P (u := xT) (ty := o.type) (off := 0) (cap := cap) hT hi hlen (by rw [hisz]; exact hf) h1n hb (hfz.imp id And.left) hfit
        rw [← eg, ← hsv] at hrun
        refine .value (exec_copy P ho a w _ _ hrun) ⟨N, γ, Fz, ?_, .pd _ _ (.int _ _)⟩
        simp only [applyU_cons, applyU]
        refine hr.writeVar fr i0 b _ (.arr (P.cellsOf e') e' x2) hH rfl rfl (by rw [eg]; rfl) (but_setRow w b _) ⟨n, _, c3.frame (fun _ h => h) fun b' hb' => setRow_other w b b' _ fun e => (hr.apart i0 _ hH rfl b (by rw [eg]; rfl)).1 (e ▸ hb'), ?_⟩
        refine ⟨c3.length.1, hown.pos, .inr ⟨b, cap, _, fz, eg, setRow_heap w b cur _ _ fz hb, ?_, hnc, hcm, ?_, ?_⟩⟩
        · rw [List.size_toArray, splice_length _ _ _ (by simpa using hfit)]
          simpa using hfz
        · rw [List.size_toArray, splice_length _ _ _ (by simpa using hfit)]
          simpa using hcs
        · rw [List.toList_toArray, List.take_zero, List.nil_append, Nat.zero_add, hl1]
          rw [List.take_append, List.take_of_length_le (by omega), hl1, ← List.drop_take, htake]
    · exact .fail
  · rename_i i0 lo hi hs
    refine .bindL fun ob hob => ?_
    split
    · rename_i k j xs
      split
      · rename_i k' ys
        refine .iteF fun hc => .pure ?_
        obtain ⟨rfl, hlh, hhj, hc1⟩ := hc
        obtain ⟨i, hii, hisz⟩ := info_of_cells (P := P) (t := e) (by omega)
        intro w0 F0 W0 N γ Fz H a w hr hv hl hfr
        have h1 := hv d
        rw [hs] at h1
        obtain ⟨b, ad, cap, hN, hg, _, hcap, had, hsv⟩ := h1.inv_asl
        have hH := (hl i0 _ hob).1
        obtain ⟨b', E, hg', hb, hsz⟩ := hr.obs i0 _ hH
        rw [hg] at hg'
        cases hg'
        obtain ⟨m', news, hm', hrow2, hlen, _, hfirst⟩ := src N γ Fz w _ (lookOk hr hl) (hv x)
        obtain ⟨_, rfl, rfl⟩ := hrow2
        have hf := hfirst (min ys.length (hi - lo)) (Nat.min_le_left _ _) w rfl
        rw [hc1, Nat.mul_one] at hf
        have hl1 : ((ys.map (Value.int k')).take (min ys.length (hi - lo))).length = min ys.length (hi - lo) := by
          rw [List.length_take, List.length_map]; omega
        have h1n : ∀ u ∈ (ys.map (Value.int k')).take (min ys.length (hi - lo)), OneC u := fun u hu => by
          obtain ⟨n, _, rfl⟩ := List.mem_map.1 (List.mem_of_mem_take hu)
          rfl
        have hfit : lo + ((ys.map (Value.int k')).take (min ys.length (hi - lo))).length ≤ (xs.map (Value.int k')).toArray.size := by
          rw [hl1, List.size_toArray, List.length_map, hsz]; omega
        have hcells : xs.take lo ++ ys.take (hi - lo) ++ xs.drop (lo + min ys.length (hi - lo)) = xs.take lo ++ ys.take (min ys.length (hi - lo)) ++ xs.drop (lo + min ys.length (hi - lo)) := by
          congr 2
          rw [Nat.min_comm, ← List.take_take, List.take_length]
        have hnl : (xs.take lo ++ ys.take (hi - lo) ++ xs.drop (lo + min ys.length (hi - lo))).length = j := by
          simp only [List.length_append, List.length_take, List.length_drop, hsz]; omega
        have hnew : ((xs.map (Value.int k')).toArray.toList.take lo ++ (ys.map (Value.int k')).take (min ys.length (hi - lo)) ++ (xs.map (Value.int k')).toArray.toList.drop (lo + ((ys.map (Value.int k')).take (min ys.length (hi - lo))).length)).toArray = ((xs.take lo ++ ys.take (hi - lo) ++ xs.drop (lo + min ys.length (hi - lo))).map (Value.int k')).toArray := by
          rw [hcells, hl1]
          simp [List.map_take, List.map_drop]
        by_cases hlt : lo < hi
        · have ead := had hlt
          subst ead
          have hrun := run_copy_gen P (u := xT) (ty := o.type) (off := lo) (cap := cap) hT hii hlen (by rw [hisz, hc1]; exact hf) h1n hb (.inl (Nat.le_refl 0)) hfit
          rw [← hsv] at hrun
          refine .value (exec_copy P ho a w _ _ hrun) ⟨N, γ, Fz, ?_, .pd _ _ (.int _ _)⟩
          simp only [applyU_cons, applyU]
          rw [hnew]
          exact hr.writeVar fr i0 b _ (.ints k' j _) hH rfl rfl (by rw [hg]; rfl) (but_setRow w b _) ⟨b, E, hg, setRow_heap w b _ _ E _ hb, hnl⟩
        · have e0 : hi - lo = 0 := by omega
          have hrun : (Builtin.copy_ #[dT, xT] o.type #[a.eval d, a.eval x]).run P w = .ok (.int .i64 ((min ys.length (hi - lo) : Nat) : Int)) w := by
            have hmin : ys.length.min (hi - lo) = min ys.length (hi - lo) := rfl
            rw [hsv]
            rw [e0] at hf hmin ⊢
            simp only [Nat.min_zero, List.take_zero] at hf
            simp only [Builtin.copy_]
            simp [run_underlying hT, sizeOf, typeInfo, hii, hlen, hisz, hc1, hf, goInt, storeCells]
          refine .value (exec_copy P ho a w w _ hrun) ⟨N, γ, Fz, ?_, .pd _ _ (.int _ _)⟩
          have exs : xs.take lo ++ ys.take (hi - lo) ++ xs.drop (lo + min ys.length (hi - lo)) = xs := by
            rw [e0]; simp
          simp only [applyU_cons, applyU]
          rw [exs]
          have eH : (fun q => if q = i0 then some (Ob.ints k' j xs) else H q) = H := by
            funext q
            split
            · rename_i h; rw [h, hH]
            · rfl
          rw [eH]
          exact hr.go fr
      · exact .fail
    · exact .fail
  · exact .fail
end ops
end Go.Ev
