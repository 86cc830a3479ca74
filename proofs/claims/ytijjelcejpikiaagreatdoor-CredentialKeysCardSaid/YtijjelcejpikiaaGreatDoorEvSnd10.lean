/-
One operation: len, slices of slices.
-/
import Derived.Test.YtijjelcejpikiaaGreatDoorEvSnd9
set_option linter.unusedVariables false
set_option linter.unusedSimpArgs false
namespace Go.Ev
variable [Globs]
set_option linter.unusedSectionVars false
section ops
variable (P : Program) {o : Oper} {ev : Operand → D} {look : Nat → Option Ob} {fr : Nat}
theorem opLen_sure (T : TypeId) (x : Operand) (ho : o.op = .call { callee := .builtin .len, args := #[x], argTypes := #[T] }) : Sure (opLen P look T (ev x)) fun r => ValOK P o ev look (.pd r) := by
  have exec : ∀ (ρ : Operand → Value) (w w' : World) v', (Builtin.len_ #[T] o.type #[ρ x]).run P w = .ok v' w' → (execOp ρ o).run P w = .ok (.value v') w' := by
    intro a w w' v' h
    simp [execOp, ho, resolve, invoke, builtin, h]
  unfold opLen
  split
  · rename_i hT
    split
    · rename_i y hx
      refine .bindL fun s hs => .pure fun N γ Fz w ρ hl hv => ?_
      have h := hv x
      rw [hx] at h
      obtain ⟨_, e⟩ := h.inv_pd.str? hs
      refine ⟨_, exec ρ w w (goInt s.size) ?_, .pd _ _ (.int _ _)⟩
      simp [Builtin.len_, run_underlying hT, e]
    · exact .fail
  · rename_i n e hT
    refine .pure fun N γ Fz w ρ hl hv => ⟨_, exec ρ w w (goInt n) ?_, .pd _ _ (.int _ _)⟩
    simp [Builtin.len_, run_underlying hT]
  · rename_i e hT
    refine .bind (content_sure look (ev x)) fun y hy => .bind (rowOf_sure P e y) fun y' hy' => .bindL fun n hn => .pure fun N γ Fz w ρ hl hv => ?_
    have hh := holds_row (e := e) (hy N γ Fz w _ hl (hv x)) hy'.2.2.2.1 hy'.2.2.2.2.1
    obtain ⟨z, cs, hr, h⟩ := hh.slice hn
    have : ∃ a cap, ρ x = .slice a n cap := by
      rcases h with ⟨h, rfl⟩ | ⟨a, cap, h, _⟩
      · exact ⟨_, _, h⟩
      · exact ⟨_, _, h⟩
    obtain ⟨a, cap, h⟩ := this
    refine ⟨_, exec ρ w w (goInt n) ?_, .pd _ _ (.int _ _)⟩
    simp [Builtin.len_, run_underlying hT, h]
  · exact .fail

theorem row_z {e : TypeId} {y' : PD} {Fz : Nat → Prop} {w : World} {z n : Nat} {cs : List Value} (hy : (∃ n, lenOf y' = some n) ∧ (∀ z xs, y' = .sl z xs → z = P.cellsOf e) ∧ (∀ k xs, y' = .nums k xs → P.underlying e = some (.int k) ∧ P.cellsOf e = 1))
    (hr : RowR Fz w z y' cs n) : z = P.cellsOf e := by
  obtain ⟨_, hz, hk⟩ := hy
  cases y' with
  | nums k xs => rw [(hk k xs rfl).2]; exact hr.1
  | sl z' xs => rw [← hz z' xs rfl]; exact hr.1.symm
  | _ => exact hr.elim
section sl
variable {T e : TypeId} {x : Operand} {lo hi mx : Option Operand}
theorem exec_slice (ho : o.op = .slice T x lo hi mx) {ρ : Operand → Value} {w w' : World} {v' : Value} (h : (Instr.sliceAt T (ρ x) (lo.map ρ) (hi.map ρ) (mx.map ρ)).run P w = .ok v' w') : (execOp ρ o).run P w = .ok (.value v') w' := by
  simp [execOp, ho, h]
/-- The three bounds, the third by its own default. -/
theorem bnd_of {ρ : Operand → Value} {m : Int} {n cap : Nat} (hm : Bnd ρ mx n m) (hnm : m ≤ n) (hc : n ≤ cap) : ∃ m', Bnd ρ mx cap m' ∧ m ≤ m' ∧ m' ≤ cap := by
  rcases hm with ⟨h, rfl⟩ | h
  · exact ⟨cap, .inl ⟨h, rfl⟩, by omega, by omega⟩
  · exact ⟨m, .inr h, by omega, by omega⟩
theorem cutPd_sure (hT : P.underlying T = some (.slice e)) (ho : o.op = .slice T x lo hi mx) (y : PD) (hx : ∀ N γ Fz w v, LookOk look N γ Fz w → V N γ Fz w (ev x) v → RD Fz w y v) : Sure (cutPd P ev e y lo hi mx) (OpOK P o ev look fr) := by
  unfold cutPd
  refine .ite (fun _ => .fail) fun hmx => .bind (rowOf_sure P e y) fun y' hy' => .bindL fun n hn => .bind (optI_sure ev _ _) fun m hm => .bind (optI_sure ev _ _) fun h hh => .bind (optI_sure ev _ _) fun l hl => .need fun hb => .bindL fun y2 hy2 => .pure (valOK P ?_)
  intro N γ Fz w ρ hlk hv
  simp only [Bool.and_eq_true, decide_eq_true_eq] at hb
  obtain ⟨h0, h1, h2⟩ := okBounds_iff hb.1
  have hrd := hy'.2.2.2.1 _ _ _ (hx N γ Fz w _ hlk (hv x))
  obtain ⟨z, cs, hr, _, hc⟩ := hrd.toRow hn
  have hz := row_z P ⟨hy'.1, hy'.2.1, hy'.2.2.1⟩ hr
  subst hz
  have bl := hl N γ Fz w ρ hv
  have bh := hh N γ Fz w ρ hv
  have bm := hm N γ Fz w ρ hv
  have hxx : mx = none ∨ hi ≠ none := by
    cases mx <;> cases hi <;> simp_all
  rcases hc with ⟨hval, rfl⟩ | ⟨a, cap, hval, hcap, hca⟩
  · obtain ⟨m', bm', hmm, hmc⟩ := bnd_of bm hb.2.2 (Nat.le_refl 0)
    have hrun := run_slice_slice P (a := none) (w := w) hT hy'.2.2.2.2.2 bl bh bm' hxx h0 h1 (by omega) hmc
    rw [← hval] at hrun
    refine ⟨_, exec_slice P ho hrun, .pd _ _ ?_⟩
    have e1 : h.toNat = 0 := by omega
    have e2 : m'.toNat = 0 := by omega
    have := hr.cut hy2 h0 h1 h2
    rw [e1, e2]
    simp only [Nat.zero_sub] at this ⊢
    rw [e1, Nat.zero_sub] at this
    simpa using this.toNil
  · obtain ⟨m', bm', hmm, hmc⟩ := bnd_of bm hb.2.2 hcap
    have hrun := run_slice_slice P (a := some a) (w := w) hT hy'.2.2.2.2.2 bl bh bm' hxx h0 h1 (by omega) hmc
    rw [← hval] at hrun
    refine ⟨_, exec_slice P ho hrun, .pd _ _ ?_⟩
    have := hr.cutRD (Fz' := Fz) (fun _ h => h) hy2 h0 h1 h2 a m'.toNat (by omega) hca
    simp only [Option.map_some]
    rw [← apply_ite some]
    exact this
theorem cutRef_sure (hT : P.underlying T = some (.slice e)) (ho : o.op = .slice T x lo hi mx) (i z : Nat) (e' : TypeId) (y : PD) (hint : Hint) (hx : ev x = .ref i) (hob : look i = some (.arr z e' y)) : Sure (cutRef P hint ev fr e i z e' y lo hi mx) (OpOK P o ev look fr) := by
  unfold cutRef
  refine .iteF fun hz => ?_
  obtain ⟨rfl, hpos⟩ := hz
  have key : ∀ {w0 F0 W0 N γ Fz H} {a : Act} {w : World}, Rel w0 F0 W0 N γ Fz H w → (∀ x, V N γ Fz w (ev x) (a.eval x)) → (∀ i ob, look i = some ob → H i = some ob ∧ ob.live = true) →
      N i ∧ a.eval x = γ i ∧ OneC (γ i) ∧ H i = some (.arr (P.cellsOf e) e' y) ∧ ∃ n cs, RowR Fz w (P.cellsOf e) y cs n ∧ OwnRow w e' (P.cellsOf e) (γ i) n cs := by
    intro w0 F0 W0 N γ Fz H a w hr hv hl
    have h1 := hv x
    rw [hx] at h1
    obtain ⟨hN, hsv, hone⟩ := h1.inv_ref
    have hH := (hl i _ hob).1
    exact ⟨hN, hsv, hsv ▸ hone, hH, hr.obs i _ hH⟩
  split
  · refine .bindL fun n hn => .bind (optI_sure ev _ _) fun h hh => .need fun hb => .bindL fun y2 hy2 => .pure ?_
    obtain ⟨_, h1, h2⟩ := okBounds_iff hb
    intro w0 F0 W0 N γ Fz H a w hr hv hl hfr
    obtain ⟨hN, hsv, hone, hH, n', cs, hrow, hown⟩ := key hr hv hl
    have hnn := hrow.unique hn
    subst hnn
    have bh := hh N γ Fz w a.eval hv
    have hk := hr.kill fr i hN
    have hcut := hrow.cut hy2 (Int.le_refl 0) h1 h2
    simp only [Int.toNat_zero, Nat.sub_zero, Nat.zero_mul, List.drop_zero] at hcut
    have fin : ∀ v', (execOp a.eval o).run P w = .ok (.value v') w → OneC v' → OwnRow w e' (P.cellsOf e) v' h.toNat (cs.take (h.toNat * P.cellsOf e)) → (∀ b, blkOf v' = some b → blkOf (γ i) = some b) →
        OpSound P o a w fun v w' => ∃ N' γ' Fz', Go1 w0 F0 W0 fr N γ Fz w N' γ' Fz' (applyU H [(i, Ob.dead), (fr, .arr (P.cellsOf e) e' y2)]) w' ∧ V N' γ' Fz' w' (.ref fr) v := by
      intro v' hrun h1' hown' hblk
      obtain ⟨N', γ', hg, hv'⟩ := hk.rel.newRow fr (hfr fr (Nat.le_refl _) (by omega)) _ _ y2 _ _ v' (But.refl _ _) h1' hcut hown' fun b hb' => by
        obtain ⟨h2, h3, h4⟩ := hr.apart i _ hH rfl b (hblk b hb')
        refine ⟨h2, h3, fun o' ob' hne hH' hw hb2 => ?_⟩
        by_cases e : o' = i
        · subst e
          rw [upd_same] at hH'
          cases hH'
          cases hw
        · rw [upd_other _ _ e] at hH'
          exact e (h4 o' ob' hH' hw hb2)
      refine .value hrun ⟨N', γ', Fz, ?_, hv'⟩
      simp only [applyU_cons, applyU]
      exact hk.trans hg
    have hlen := hown.len
    rcases hown.row with ⟨e1, e2⟩ | ⟨b, cap, cur, fz, e1, hb', hfz, hnc, hcm, hcs, htake⟩
    · subst e2
      have hrun := run_slice_slice P (a := none) (w := w) (ρ := a.eval) (lo := none) (mx := none) (l := 0) (m := (0 : Nat)) hT hpos (.inl ⟨rfl, rfl⟩) bh (.inl ⟨rfl, rfl⟩) (.inl rfl) (by omega) h1 h2 (by omega)
      have e0 : h.toNat = 0 := by omega
      refine fin (.slice none 0 0) (exec_slice P ho ?_) rfl ⟨?_, hpos, .inl ⟨rfl, e0⟩⟩ (fun b hb => by cases hb)
      · rw [hsv, e1]
        simpa [e0] using hrun
      · rw [e0]; simp
    · have hrun := run_slice_slice P (a := some ⟨b, 0, none⟩) (w := w) (ρ := a.eval) (lo := none) (mx := none) (l := 0) (m := cap) hT hpos (.inl ⟨rfl, rfl⟩) bh (.inl ⟨rfl, rfl⟩) (.inl rfl) (by omega) h1 (by omega) (by omega)
      have e0 : (if (cap : Int).toNat = (0 : Int).toNat then some (⟨b, 0, none⟩ : Addr) else (some (⟨b, 0, none⟩ : Addr)).map (·.add ((0 : Int).toNat * P.cellsOf e))) = some ⟨b, 0, none⟩ := by
        split <;> simp [add_spot]
      rw [e0] at hrun
      refine fin (.slice (some ⟨b, 0, none⟩) h.toNat cap) (exec_slice P ho ?_) rfl ⟨?_, hpos, .inr ⟨b, cap, cur, fz, rfl, hb', hfz, by omega, hcm, hcs, ?_⟩⟩ (fun b' hb' => by rw [e1]; exact hb')
      · rw [hsv, e1]
        simpa using hrun
      · rw [List.length_take, hlen]
        exact Nat.min_eq_left (Nat.mul_le_mul_right _ (by omega))
      · rw [← htake, List.take_take]
        congr 1
        exact (Nat.min_eq_left (Nat.mul_le_mul_right _ (by omega))).symm
  · refine .bindL fun n hn => .bind (optI_sure ev _ _) fun h hh => .bind (optI_sure ev _ _) fun l hl0 => .need fun hb => .pure ?_
    obtain ⟨h0, h1, h2⟩ := okBounds_iff hb
    intro w0 F0 W0 N γ Fz H a w hr hv hl hfr
    obtain ⟨hN, hsv, hone, hH, n', cs, hrow, hown⟩ := key hr hv hl
    have hnn := hrow.unique hn
    subst hnn
    have bh := hh N γ Fz w a.eval hv
    have bl := hl0 N γ Fz w a.eval hv
    rcases hown.cells with ⟨e1, e2⟩ | ⟨b, cap, e1, hnc, hcells⟩
    · subst e2
      have hrun := run_slice_slice P (a := none) (w := w) (ρ := a.eval) (mx := none) (m := (0 : Nat)) hT hpos bl bh (.inl ⟨rfl, rfl⟩) (.inl rfl) h0 h1 h2 (by omega)
      have e0 : h.toNat = 0 := by omega
      have e2 : l.toNat = 0 := by omega
      refine .value (v := .slice none 0 0) (w' := w) (exec_slice P ho ?_) ⟨N, γ, Fz, hr.go fr, .junk _⟩
      rw [hsv, e1]
      simpa [e0, e2] using hrun
    · have hrun := run_slice_slice P (a := some ⟨b, 0, none⟩) (w := w) (ρ := a.eval) (mx := none) (m := cap) hT hpos bl bh (.inl ⟨rfl, rfl⟩) (.inl rfl) h0 h1 (by omega) (by omega)
      refine .value (v := .slice (some (if cap = l.toNat then ⟨b, 0, none⟩ else (⟨b, 0, none⟩ : Addr).add (l.toNat * P.cellsOf e))) (h.toNat - l.toNat) (cap - l.toNat)) (w' := w) (exec_slice P ho ?_) ⟨N, γ, Fz, hr.go fr, .junk _⟩
      rw [hsv, e1]
      simp only [Int.toNat_natCast, Option.map_some] at hrun
      rw [← apply_ite some] at hrun
      exact hrun
  · refine .bindL fun n hn => .bind (optI_sure ev _ _) fun h hh => .bind (optI_sure ev _ _) fun l hl0 => .need fun hb => .bindL fun y2 hy2 => .pure ?_
    obtain ⟨h0, h1, h2⟩ := okBounds_iff hb
    intro w0 F0 W0 N γ Fz H a w hr hv hl hfr
    obtain ⟨hN, hsv, hone, hH, n', cs, hrow, hown⟩ := key hr hv hl
    have hnn := hrow.unique hn
    subst hnn
    have bh := hh N γ Fz w a.eval hv
    have bl := hl0 N γ Fz w a.eval hv
    have hfz := hr.freeze fr i _ _ _ hH hone
    rcases hown.cells with ⟨e1, e2⟩ | ⟨b, cap, e1, hnc, hcells⟩
    · subst e2
      have hrun := run_slice_slice P (a := none) (w := w) (ρ := a.eval) (mx := none) (m := (0 : Nat)) hT hpos bl bh (.inl ⟨rfl, rfl⟩) (.inl rfl) h0 h1 h2 (by omega)
      have e0 : h.toNat = 0 := by omega
      have e2 : l.toNat = 0 := by omega
      refine .value (v := .slice none 0 0) (w' := w) (exec_slice P ho ?_) ⟨N, γ, _, hfz, .pd _ _ ?_⟩
      · rw [hsv, e1]
        simpa [e0, e2] using hrun
      · have := hrow.cut hy2 h0 h1 h2
        rw [e0, Nat.zero_sub] at this
        exact this.toNil
    · have hrun := run_slice_slice P (a := some ⟨b, 0, none⟩) (w := w) (ρ := a.eval) (mx := none) (m := cap) hT hpos bl bh (.inl ⟨rfl, rfl⟩) (.inl rfl) h0 h1 (by omega) (by omega)
      have hrd := hrow.cutRD (Fz' := fun b' => Fz b' ∨ blkOf (γ i) = some b') (fun _ h => .inl h) hy2 h0 h1 h2 ⟨b, 0, none⟩ cap (by omega) fun _ => ⟨rfl, .inr (by rw [e1]; rfl), hcells⟩
      refine .value (v := .slice (some (if cap = l.toNat then ⟨b, 0, none⟩ else (⟨b, 0, none⟩ : Addr).add (l.toNat * P.cellsOf e))) (h.toNat - l.toNat) (cap - l.toNat)) (w' := w) (exec_slice P ho ?_) ⟨N, γ, _, hfz, .pd _ _ hrd⟩
      rw [hsv, e1]
      simp only [Int.toNat_natCast, Option.map_some] at hrun
      rw [← apply_ite some] at hrun
      exact hrun
  · exact .fail
theorem opSlice_sure (ho : o.op = .slice T x lo hi mx) (hint : Hint) : Sure (opSlice P hint ev look fr T (ev x) lo hi mx) (OpOK P o ev look fr) := by
  unfold opSlice
  split
  · rename_i hT
    split
    · rename_i y hx
      refine .bindL fun s hs => .bind (optI_sure ev _ _) fun h hh => .bind (optI_sure ev _ _) fun l hl => .need fun hb => .pure (valOK P ?_)
      obtain ⟨h0, h1, h2⟩ := okBounds_iff hb
      intro N γ Fz w ρ hlk hv
      have h3 := hv x
      rw [hx] at h3
      obtain ⟨_, e1⟩ := h3.inv_pd.str? hs
      have hrun := run_slice_string P (w := w) hT (hl N γ Fz w ρ hv) (hh N γ Fz w ρ hv) h0 h1 h2
      exact ⟨_, exec_slice P ho (by rw [e1]; exact hrun), .pd _ _ (.str _)⟩
    · exact .fail
  · rename_i e hT
    split
    · rename_i i a0 b0 hx
      split
      · refine .iteF fun he => .bind (optI_sure ev _ _) fun h hh => .bind (optI_sure ev _ _) fun l hl => .need fun hb => .pure (valOK P ?_)
        obtain ⟨h0, h1, h2⟩ := okBounds_iff hb
        intro N γ Fz w ρ hlk hv
        have h3 := hv x
        rw [hx] at h3
        obtain ⟨b, a, cap, hn, hg, hab, hcap, ha, e1⟩ := h3.inv_asl
        have hrun := run_slice_slice P (a := some a) (w := w) (ρ := ρ) (mx := none) (m := cap) hT (by omega) (hl N γ Fz w ρ hv) (hh N γ Fz w ρ hv) (.inl ⟨rfl, rfl⟩) (.inl rfl) h0 h1 (by omega) (by omega)
        simp only [Int.toNat_natCast, Option.map_some] at hrun
        rw [← apply_ite some] at hrun
        refine ⟨_, exec_slice P ho (by rw [e1]; exact hrun), ?_⟩
        rw [addN_eq, addN_eq, show h.toNat - l.toNat = (a0 + h.toNat) - (a0 + l.toNat) by omega]
        refine .asl i (a0 + l.toNat) (a0 + h.toNat) b _ _ hn hg (by omega) (by omega) fun hlt => ?_
        rw [if_neg (by omega), ha (by omega), he]
        simp [add_spot]
      · exact .fail
    · rename_i i hx
      refine .bindL fun ob hob => ?_
      split
      · exact cutRef_sure P hT ho i _ _ _ hint hx hob
      · refine cutPd_sure P hT ho _ fun N γ Fz w v hlk hv => ?_
        rw [hx] at hv
        obtain ⟨_, rfl, _⟩ := hv.inv_ref
        exact (hlk i _ hob).2.2.1
      · exact .fail
    · rename_i y hx
      refine cutPd_sure P hT ho _ fun N γ Fz w v hlk hv => ?_
      rw [hx] at hv
      exact hv.inv_pd
    · exact .fail
  · rename_i m e hT
    refine .iteF fun he => ?_
    split
    · rename_i i hx
      refine .bind (optI_sure ev _ _) fun h hh => .bind (optI_sure ev _ _) fun l hl => .need fun hb => .pure (valOK P ?_)
      obtain ⟨h0, h1, h2⟩ := okBounds_iff hb
      intro N γ Fz w ρ hlk hv
      have h3 := hv x
      rw [hx] at h3
      obtain ⟨b, hn, hg, e1⟩ := h3.inv_ptr
      have hrun := run_slice_array P (w := w) (a := ⟨b, 0, none⟩) hT (by omega) (hl N γ Fz w ρ hv) (hh N γ Fz w ρ hv) h0 h1 h2
      refine ⟨_, exec_slice P ho (by rw [e1]; exact hrun), ?_⟩
      refine .asl i l.toNat h.toNat b _ _ hn hg (by omega) (by omega) fun hlt => ?_
      rw [if_neg (by omega), he]
      simp [add_spot]
    · rename_i k m' xs hx
      refine .bind (optI_sure ev _ _) fun h hh => .bind (optI_sure ev _ _) fun l hl => .iteF fun hm => .need fun hb => .pure (valOK P ?_)
      subst hm
      obtain ⟨h0, h1, h2⟩ := okBounds_iff hb
      intro N γ Fz w ρ hlk hv
      have h3 := hv x
      rw [hx] at h3
      obtain ⟨b, base, u, hu, hF, hc, e1⟩ := h3.inv_rptr
      obtain ⟨hlen, rfl⟩ := hu.inv_arr
      have hrun := run_slice_array P (w := w) (a := ⟨b, base, none⟩) hT (by omega) (hl N γ Fz w ρ hv) (hh N γ Fz w ρ hv) h0 h1 h2
      refine ⟨_, exec_slice P ho (by rw [e1]; exact hrun), .pd _ _ ?_⟩
      have hrow : RowR Fz w 1 (.nums k xs) (xs.map (Value.int k)) m' := ⟨rfl, hlen.symm, rfl⟩
      rw [he]
      exact hrow.cutRD (Fz' := Fz) (fun _ h => h) rfl h0 h1 h2 ⟨b, base, none⟩ m' (by omega) fun _ => ⟨rfl, hF, by simpa [Value.cells] using hc⟩
    · exact .fail
  · exact .fail
end sl
end ops
end Go.Ev
