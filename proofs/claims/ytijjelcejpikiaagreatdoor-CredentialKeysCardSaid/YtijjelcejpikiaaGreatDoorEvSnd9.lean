/-
One operation: append, len, conversions, new slices.
-/
import Derived.Test.YtijjelcejpikiaaGreatDoorEvSnd8
set_option linter.unusedVariables false
set_option linter.unusedSimpArgs false
namespace Go.Ev
variable [Globs]
set_option linter.unusedSectionVars false
section ops
variable (P : Program) {o : Oper} {ev : Operand → D} {look : Nat → Option Ob} {fr : Nat}
theorem strCells_bytesOf (s : ByteArray) : Lib.strCells s = (bytesOf s).map (Value.int .u8) := by
  unfold Lib.strCells bytesOf
  rw [List.map_map]
  rfl
theorem bytesOf_length (s : ByteArray) : (bytesOf s).length = s.size := by
  unfold bytesOf
  rw [List.length_map, Array.length_toList]
  rfl
/-- The cells that append and copy read. -/
def SrcOK (z : Nat) (y : PD) (x : Value) (Fz : Nat → Prop) (w : World) : Prop := ∃ n cs, lenOf y = some n ∧ RowR Fz w z y cs n ∧ (∀ w, (Builtin.lenOf x).run P w = .ok n w) ∧
  (∀ w', w'.heap = w.heap → (Builtin.firstCells z n x).run P w' = .ok cs.toArray w') ∧ ∀ m, m ≤ n → ∀ w', w'.heap = w.heap → (Builtin.firstCells z m x).run P w' = .ok (cs.take (m * z)).toArray w'
theorem srcOf_sure (e T : TypeId) (x : D) : Sure (srcOf P look e T x) fun y => (∃ d, P.underlying T = some d ∧ ∀ k, d ≠ .int k) ∧ (∃ n, lenOf y = some n) ∧
    ∀ N γ Fz w v, LookOk look N γ Fz w → V N γ Fz w x v → SrcOK P (P.cellsOf e) y v Fz w := by
  unfold srcOf
  split
  · rename_i hT
    split
    · rename_i y0 he
      refine .iteF fun h1 => .bindL fun s hs => .pure ⟨⟨_, hT, by simp⟩, ⟨_, rfl⟩, fun N γ Fz w v hl h => ?_⟩
      rw [h1]
      obtain ⟨_, rfl⟩ := h.inv_pd.str? hs
      refine ⟨s.size, (bytesOf s).map (Value.int .u8), by simp [lenOf, bytesOf_length], ⟨rfl, (bytesOf_length s).symm, rfl⟩, fun w => by simp [Builtin.lenOf], fun w' _ => ?_, fun m hm w' _ => ?_⟩
      · rw [← strCells_bytesOf]
        exact Lib.run_firstCells_string w' 1 s
      · simp only [Builtin.firstCells, Sem.run_pure]
        congr 1
        apply Array.ext'
        simp only [bytesOf, Nat.mul_one, List.map_map]
        simp
        rfl
    · exact .fail
  · rename_i e' hT
    refine .bind (content_sure look x) fun y hy => (rowOf_sure P e y).mono fun y' hy' => ⟨⟨_, hT, by simp⟩, hy'.1, fun N γ Fz w v hl h => ?_⟩
    obtain ⟨⟨n, hn⟩, hz, hk, hxy, he, h0⟩ := hy'
    have hh := holds_row (e := e) (hy N γ Fz w v hl h) hxy he
    obtain ⟨z, cs, hr, h⟩ := hh.slice hn
    have hzz : z = P.cellsOf e := by
      cases y' with
      | nums k xs => rw [(hk k xs rfl).2]; exact hr.1
      | sl z' xs => rw [← hz z' xs rfl]; exact hr.1.symm
      | _ => exact hr.elim
    subst hzz
    have hlen := hr.length.1
    rcases h with ⟨rfl, rfl⟩ | ⟨a, cap, rfl, hc, h⟩
    · refine ⟨0, cs, hn, hr, fun w => by simp [Builtin.lenOf], fun w' _ => ?_, fun m hm w' _ => ?_⟩
      · obtain rfl : cs = [] := List.eq_nil_of_length_eq_zero (by simpa using hlen)
        simp [Builtin.firstCells]
      · obtain rfl : cs = [] := List.eq_nil_of_length_eq_zero (by simpa using hlen)
        simp [Builtin.firstCells]
    · have hcell : ∀ w' : World, w'.heap = w.heap → ∀ j v, cs[j]? = some v → w'.cell? (a.add j) = some v := fun w' hw' j v hj => by
        have hlt : j < cs.length := (List.getElem?_eq_some_iff.1 hj).1
        have h0n : 0 < n := by
          rcases Nat.eq_zero_or_pos n with h | h
          · subst h; simp at hlen; rw [hlen] at hlt; simp at hlt
          · exact h
        obtain ⟨hs, hca⟩ := h h0n
        rw [add_spot hs]
        have := hca j v hj
        simpa [World.cell?, hw'] using this
      refine ⟨n, cs, hn, hr, fun w => by simp [Builtin.lenOf], fun w' hw' => run_firstCells_some w' _ n a n cap cs hlen (hcell w' hw'), fun m hm w' hw' => ?_⟩
      refine run_firstCells_some w' _ m a n cap _ ?_ fun j v hj => ?_
      · rw [List.length_take, hlen]
        exact Nat.min_eq_left (Nat.mul_le_mul_right _ hm)
      · rw [List.getElem?_take] at hj
        split at hj
        · exact hcell w' hw' j v hj
        · cases hj
  · exact .fail

/-- Rows put together. -/
theorem RowR.put {Fz : Nat → Prop} {w : World} {z : Nat} {x y r : PD} {cs ds : List Value} {n m : Nat} (h : RowR Fz w z x cs n) (h' : RowR Fz w z y ds m) (hp : putRow x y = some r) : RowR Fz w z r (cs ++ ds) (n + m) := by
  unfold putRow at hp
  split at hp
  · split at hp
    · cases hp
      subst_vars
      obtain ⟨h1, rfl, rfl⟩ := h
      obtain ⟨_, rfl, rfl⟩ := h'
      exact ⟨h1, by simp, by simp⟩
    · cases hp
  · split at hp
    · cases hp
      subst_vars
      obtain ⟨h1, rfl, vs, h3, h4, h5, h6⟩ := h
      obtain ⟨_, rfl, us, g3, g4, g5, g6⟩ := h'
      refine ⟨h1, by simp, vs ++ us, by simp [h3, g3], by simp [h4, g4], fun v hv => (List.mem_append.1 hv).elim (h5 v) (g5 v), fun i hi => ?_⟩
      by_cases hlt : i < vs.length
      · have := h6 i (by omega)
        rw [List.getElem_append_left (by omega)]
        simpa [List.getD, List.getElem?_append_left hlt] using this
      · have hi' : i - vs.length < us.length := by simp at hi; omega
        have := g6 (i - vs.length) (by omega)
        rw [List.getElem_append_right (by omega)]
        simp only [List.getD, List.getElem?_append_right (Nat.le_of_not_lt hlt)]
        simp only [List.getD, h3] at this ⊢
        exact this
    · cases hp
  · cases hp
theorem RowR.unique {Fz : Nat → Prop} {w : World} {z : Nat} {x : PD} {cs : List Value} {n m : Nat} (h : RowR Fz w z x cs n) (hl : lenOf x = some m) : m = n := by
  have := h.length.2
  rw [hl] at this
  exact Option.some.inj this
theorem RowR.nil (Fz : Nat → Prop) (w : World) {z z' : Nat} {y : PD} {cs : List Value} {n : Nat} (h : RowR Fz w z y cs n) : cs = [] ++ cs := rfl
/-- An object that nobody uses any more. -/
theorem Rel.kill {w0 : World} {F0 W0 N : Nat → Prop} {γ : Nat → Value} {Fz : Nat → Prop} {H : Nat → Option Ob} {w : World} (h : Rel w0 F0 W0 N γ Fz H w) (fr i : Nat) (hN : N i) :
    Go1 w0 F0 W0 fr N γ Fz w N γ Fz (upd H i (some .dead)) w := by
  have eN : (fun j => N j ∨ j = i) = N := by funext j; simp; rintro rfl; exact hN
  have eγ : upd γ i (γ i) = γ := by funext j; simp [upd]; rintro rfl; rfl
  have := h.put (w' := w) fr i .dead (γ i) (fun _ => rfl) (fun hn => absurd hN hn) (But.refl _ _) (fun h => by cases h) trivial
  rw [eN, eγ] at this
  exact this
theorem append_sure (sT xT : TypeId) (s x : Operand) (ho : o.op = .call { callee := .builtin .append, args := #[s, x], argTypes := #[sT, xT] }) : Sure (opAppend P look fr sT xT (ev s) (ev x)) (OpOK P o ev look fr) := by
  unfold opAppend
  refine .bindL fun e he => .bindL fun zv hzv => .bind (srcOf_sure P e xT (ev x)) fun y hy => ?_
  have hT := elemT_some P he
  obtain ⟨i, hi, hz, hisz, hib, hzs, hpos, hbpos, hkon⟩ := zeroE_some P hzv
  obtain ⟨⟨d, hd, hdk⟩, ⟨m, hm⟩, src⟩ := hy
  have exec : ∀ (a : Act) (w w' : World) v', (Builtin.append_ #[sT, xT] o.type #[a.eval s, a.eval x]).run P w = .ok v' w' → (execOp a.eval o).run P w = .ok (.value v') w' := by
    intro a w w' v' h
    simp [execOp, ho, resolve, invoke, builtin, h]
  split
  · rename_i i0 hs
    refine .bindL fun ob hob => ?_
    split
    · rename_i z' e' x0
      refine .bindL fun x1 hx1 => .bindL fun n1 hn1 => .iteF fun hee => .need fun hbytes => .pure ?_
      obtain ⟨rfl, rfl⟩ := hee
      have hbytes := of_decide_eq_true hbytes
      intro w0 F0 W0 N γ Fz H a w hr hv hl hfr
      have hlk := lookOk hr hl
      have h1 := hv s
      rw [hs] at h1
      obtain ⟨hN, hsv, hone⟩ := h1.inv_ref
      have hH := (hl i0 _ hob).1
      obtain ⟨n, cs, hrow, hown⟩ := hr.obs i0 _ hH
      obtain ⟨m', news, hm', hrow2, hlen, hfirst, _⟩ := src N γ Fz w _ hlk (hv x)
      have hrow3 := hrow.put hrow2 hx1
      have hnm : n1 = n + m' := hrow3.unique hn1
      rw [hnm, ← hib] at hbytes
      rw [← hisz] at hown hfirst hrow2 hrow3
      obtain ⟨v', w', hrun, hown', hbut, hone', hblk⟩ := run_append_gen P hT hd hdk hi hz (by omega) (by omega) (by omega) (ty := o.type) (hown) hlen hfirst hrow2.one hrow2.length.1 hbytes
      rw [← hsv] at hrun
      have hk := hr.kill fr i0 hN
      obtain ⟨N', γ', hg, hv'⟩ := hk.rel.newRow fr (hfr fr (Nat.le_refl _) (by omega)) _ _ x1 _ _ v' hbut hone' hrow3 hown' fun b hb => by
        rcases hblk b hb with hb' | hb'
        · exact hk.rel.freeNew fr b hb'
        · obtain ⟨h2, h3, h4⟩ := hr.apart i0 _ hH rfl b hb'
          refine ⟨h2, h3, fun o' ob' hne hH' hw hb2 => ?_⟩
          by_cases e : o' = i0
          · subst e
            rw [upd_same] at hH'
            cases hH'
            cases hw
          · rw [upd_other _ _ e] at hH'
            exact e (h4 o' ob' hH' hw hb2)
      refine .value (exec a w w' v' hrun) ⟨N', γ', Fz, ?_, hv'⟩
      simp only [applyU_cons, applyU]
      rw [hisz] at hg
      exact hk.trans hg
    · exact .fail
  · rename_i hs
    refine .bindL fun n1 hn1 => .need fun hbytes => .pure ?_
    have hbytes := of_decide_eq_true hbytes
    intro w0 F0 W0 N γ Fz H a w hr hv hl hfr
    have hlk := lookOk hr hl
    have h1 := hv s
    rw [hs] at h1
    have hsv := h1.inv_pd.inv_opq
    obtain ⟨m', news, hm', hrow2, hlen, hfirst, _⟩ := src N γ Fz w _ hlk (hv x)
    have hnm : n1 = m' := hrow2.unique hn1
    rw [hnm, ← hib] at hbytes
    rw [← hisz] at hfirst hrow2
    obtain ⟨v', w', hrun, hown', hbut, hone', hblk⟩ := run_append_gen P hT hd hdk hi hz (by omega) (by omega) (by omega) (ty := o.type) (w := w) (v := .slice none 0 0) (n := 0) (cs := []) ⟨by simp, by omega, .inl ⟨rfl, rfl⟩⟩ hlen hfirst hrow2.one hrow2.length.1 (by simpa using hbytes)
    rw [← hsv] at hrun
    rw [Nat.zero_add, List.nil_append] at hown'
    obtain ⟨N', γ', hg, hv'⟩ := hr.newRow fr (hfr fr (Nat.le_refl _) (by omega)) _ _ y _ _ v' hbut hone' hrow2 hown' fun b hb => by
      rcases hblk b hb with hb' | hb'
      · exact hr.freeNew fr b hb'
      · cases hb'
    refine .value (exec a w w' v' hrun) ⟨N', γ', Fz, ?_, hv'⟩
    simp only [applyU_cons, applyU]
    rw [hisz] at hg
    exact hg
  · exact .fail
end ops
end Go.Ev
