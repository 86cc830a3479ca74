/-
Slice expressions; arithmetic; lengths.
-/
import Derived.Test.YtijjelcejpikiaaGreatDoorEvSnd2
import Derived.Laws.StructEq
import Derived.Laws.Cover3
import Derived.ChangeKeysEq
set_option linter.unusedVariables false
set_option linter.unusedSimpArgs false
namespace Go.Ev
variable [Globs]
set_option linter.unusedSectionVars false
section ops
variable (P : Program)

/-! slice expressions -/
/-- A bound: given, or left out. -/
def Bnd (ρ : Operand → Value) (o : Option Operand) (dflt i : Int) : Prop := (o = none ∧ i = dflt) ∨ ∃ x k, o = some x ∧ ρ x = .int k i
theorem optI_sure (ev : Operand → D) (dflt : Int) (o : Option Operand) : Sure (optI ev dflt o) fun i => ∀ N γ Fz w (ρ : Operand → Value), (∀ x, V N γ Fz w (ev x) (ρ x)) → Bnd ρ o dflt i := by
  unfold optI
  split
  · exact .pure fun N γ Fz w ρ h => .inl ⟨rfl, rfl⟩
  · exact .bind (intD_sure _) fun p hp => .pure fun N γ Fz w ρ h => .inr ⟨_, p.1, rfl, hp N γ Fz w _ (h _)⟩
theorem okBounds_iff {l h : Int} {n : Nat} (hb : okBounds l h n = true) : 0 ≤ l ∧ l ≤ h ∧ h ≤ n := by
  simpa [okBounds] using hb
theorem run_sliceBounds {w : World} {ρ : Operand → Value} {isSlice : Bool} {len cap : Nat} {lo hi mx : Option Operand} {l h m : Int} (hl : Bnd ρ lo 0 l) (hh : Bnd ρ hi len h) (hm : Bnd ρ mx cap m) (hx : mx = none ∨ hi ≠ none)
    (h0 : 0 ≤ l) (h1 : l ≤ h) (h2 : h ≤ m) (h3 : m ≤ cap) :
    (Instr.sliceBounds isSlice len cap (lo.map ρ) (hi.map ρ) (mx.map ρ)).run P w = .ok (l.toNat, h.toNat, m.toNat) w := by
  have bound : ∀ (x : Operand) (k : IntKind) (i : Int) (y : Nat) (c : BoundsCode), ρ x = .int k i → 0 ≤ i → i ≤ y → (Instr.sliceBound (ρ x) y c).run P w = .ok i.toNat w := by
    intro x k i y c hx h0 h1
    rw [hx]
    exact run_sliceBound w k i y c h0 h1
  have em : (mx = none ∧ m = cap) ∨ ∃ x k, mx = some x ∧ ρ x = .int k m := hm
  unfold Instr.sliceBounds
  rcases hm with ⟨rfl, rfl⟩ | ⟨xm, km, rfl, hxm⟩
  · rcases hh with ⟨rfl, rfl⟩ | ⟨xh, kh, rfl, hxh⟩
    · rcases hl with ⟨rfl, rfl⟩ | ⟨xl, kl, rfl, hxl⟩
      · simp
      · simp [bound xl kl l len _ hxl h0 h1]
    · have hb := fun c => bound xh kh h cap c hxh (by omega) (by omega)
      rcases hl with ⟨rfl, rfl⟩ | ⟨xl, kl, rfl, hxl⟩
      · simp [hb]
      · have hb2 := fun c => bound xl kl l h.toNat c hxl h0 (by omega)
        simp [hb, hb2]
  · have hbm := fun c => bound xm km m cap c hxm (by omega) (by omega)
    rcases hh with ⟨rfl, rfl⟩ | ⟨xh, kh, rfl, hxh⟩
    · simp at hx
    · have hb := fun c => bound xh kh h m.toNat c hxh (by omega) (by omega)
      rcases hl with ⟨rfl, rfl⟩ | ⟨xl, kl, rfl, hxl⟩
      · simp [hb, hbm]
      · have hb2 := fun c => bound xl kl l h.toNat c hxl h0 (by omega)
        simp [hb, hb2, hbm]
theorem run_slice_slice {T e : TypeId} {w : World} {ρ : Operand → Value} {a : Option Addr} {len cap : Nat} {lo hi mx : Option Operand} {l h m : Int} (hT : P.underlying T = some (.slice e)) (hz : 0 < P.cellsOf e)
    (hl : Bnd ρ lo 0 l) (hh : Bnd ρ hi len h) (hm : Bnd ρ mx cap m) (hx : mx = none ∨ hi ≠ none) (h0 : 0 ≤ l) (h1 : l ≤ h) (h2 : h ≤ m) (h3 : m ≤ cap) :
    (Instr.sliceAt T (.slice a len cap) (lo.map ρ) (hi.map ρ) (mx.map ρ)).run P w =
      .ok (.slice (if m.toNat = l.toNat then a else a.map (·.add (l.toNat * P.cellsOf e))) (h.toNat - l.toNat) (m.toNat - l.toNat)) w := by
  have := run_sliceBounds P (w := w) (isSlice := true) hl hh hm hx h0 h1 h2 h3
  simp [Instr.sliceAt, Instr.slice, run_underlying hT, this, run_sizeOf hz]
theorem run_slice_string {T : TypeId} {w : World} {ρ : Operand → Value} {s : ByteArray} {lo hi : Option Operand} {l h : Int} (hT : P.underlying T = some .string)
    (hl : Bnd ρ lo 0 l) (hh : Bnd ρ hi s.size h) (h0 : 0 ≤ l) (h1 : l ≤ h) (h2 : h ≤ s.size) :
    (Instr.sliceAt T (.string s) (lo.map ρ) (hi.map ρ) none).run P w = .ok (.string (s.extract l.toNat h.toNat)) w := by
  have := run_sliceBounds P (w := w) (isSlice := false) (mx := none) (m := s.size) hl hh (.inl ⟨rfl, rfl⟩) (.inl rfl) h0 h1 h2 (by omega)
  simp at this
  simp [Instr.sliceAt, Instr.slice, run_underlying hT, this]
theorem run_slice_array {T e : TypeId} {w : World} {ρ : Operand → Value} {a : Addr} {n : Nat} {lo hi : Option Operand} {l h : Int} (hT : P.underlying T = some (.array n e)) (hz : 0 < P.cellsOf e)
    (hl : Bnd ρ lo 0 l) (hh : Bnd ρ hi n h) (h0 : 0 ≤ l) (h1 : l ≤ h) (h2 : h ≤ n) :
    (Instr.sliceAt T (.pointer (some a)) (lo.map ρ) (hi.map ρ) none).run P w = .ok (.slice (some (if n = l.toNat then a else a.add (l.toNat * P.cellsOf e))) (h.toNat - l.toNat) (n - l.toNat)) w := by
  have := run_sliceBounds P (w := w) (isSlice := false) (mx := none) (m := n) hl hh (.inl ⟨rfl, rfl⟩) (.inl rfl) h0 h1 h2 (by omega)
  simp at this
  simp [Instr.sliceAt, Instr.sureAddr, run_underlying hT, this, run_sizeOf hz]

theorem cut_map {A B : Type} (f : A → B) (xs : List A) (l h : Int) : (cut xs l h).map f = cut (xs.map f) l h := by simp [cut, List.map_drop, List.map_take]
theorem cut_length {A : Type} (xs : List A) {l h : Int} (h2 : h ≤ xs.length) : (cut xs l h).length = h.toNat - l.toNat := by simp [cut]; omega
theorem flat_take {z : Nat} : ∀ (vs : List Value) (k : Nat), (∀ v ∈ vs, v.cells.size = z) → (vs.take k).flatMap (·.cells.toList) = (vs.flatMap (·.cells.toList)).take (k * z)
  | [], k, _ => by simp
  | v :: vs, 0, _ => by simp
  | v :: vs, k + 1, h => by
    have hv := h v (by simp)
    simp only [List.take_succ_cons, List.flatMap_cons, flat_take vs k (fun v hv => h v (by simp [hv]))]
    have hl : v.cells.toList.length = z := by simp [hv]
    have e1 : v.cells.toList.take ((k + 1) * z) = v.cells.toList := List.take_of_length_le (by rw [hl, Nat.add_mul]; omega)
    have e2 : (k + 1) * z - z = k * z := by rw [Nat.add_mul]; omega
    rw [List.take_append, e1, hl, e2]
theorem flat_drop {z : Nat} : ∀ (vs : List Value) (k : Nat), (∀ v ∈ vs, v.cells.size = z) → (vs.drop k).flatMap (·.cells.toList) = (vs.flatMap (·.cells.toList)).drop (k * z)
  | [], k, _ => by simp
  | v :: vs, 0, _ => by simp
  | v :: vs, k + 1, h => by
    have hv := h v (by simp)
    simp only [List.drop_succ_cons, List.flatMap_cons, flat_drop vs k (fun v hv => h v (by simp [hv]))]
    have hl : v.cells.toList.length = z := by simp [hv]
    have e1 : v.cells.toList.drop ((k + 1) * z) = [] := List.drop_eq_nil_of_le (by rw [hl, Nat.add_mul]; omega)
    have e2 : (k + 1) * z - z = k * z := by rw [Nat.add_mul]; omega
    rw [List.drop_append, e1, hl, e2, List.nil_append]
theorem RowR.cut {Fz : Nat → Prop} {w : World} {z : Nat} {y y' : PD} {cs : List Value} {n : Nat} {l h : Int} (hr : RowR Fz w z y cs n) (hc : cutRow y l h = some y') (h0 : 0 ≤ l) (h1 : l ≤ h) (h2 : h ≤ n) :
    RowR Fz w z y' ((cs.take (h.toNat * z)).drop (l.toNat * z)) (h.toNat - l.toNat) := by
  cases y with
  | nums k xs =>
    simp only [cutRow, Option.some.injEq] at hc
    subst hc
    obtain ⟨rfl, rfl, rfl⟩ := hr
    refine ⟨rfl, (cut_length xs h2).symm, ?_⟩
    simp [Ev.cut, List.map_drop, List.map_take]
  | sl z' xs =>
    simp only [cutRow, Option.some.injEq] at hc
    subst hc
    obtain ⟨rfl, rfl, vs, hl, rfl, hcs, hrd⟩ := hr
    refine ⟨rfl, (cut_length xs h2).symm, (vs.take h.toNat).drop l.toNat, by simp; omega, ?_, fun v hv => hcs v (List.mem_of_mem_take (List.mem_of_mem_drop hv)), fun i hi => ?_⟩
    · rw [flat_drop _ _ (fun v hv => (hcs v (List.mem_of_mem_take hv)).1), flat_take _ _ (fun v hv => (hcs v hv).1)]
    · have hi2 : l.toNat + i < xs.length := by rw [cut_length xs h2] at hi; omega
      have := hrd (l.toNat + i) hi2
      simp only [Ev.cut, List.getElem_drop, List.getElem_take]
      have e : ((vs.take h.toNat).drop l.toNat).getD i undef = vs.getD (l.toNat + i) undef := by
        rw [cut_length xs h2] at hi
        simp only [List.getD, List.getElem?_drop, List.getElem?_take]
        rw [if_pos (by omega)]
      rw [e]
      exact this
  | _ => exact hr.elim
theorem CellsAt.cut {w : World} {b off : Nat} {cs : List Value} (h : CellsAt w b off cs) (i j : Nat) : CellsAt w b (off + i) ((cs.take j).drop i) := fun k v hk => by
  simp only [List.getElem?_drop, List.getElem?_take] at hk
  split at hk
  · rw [Nat.add_assoc]; exact h _ v hk
  · cases hk
/-- A part of a slice, at its address. -/
theorem RowR.cutRD {Fz Fz' : Nat → Prop} {w : World} {z : Nat} {y y' : PD} {cs : List Value} {n : Nat} {l h : Int} (hr : RowR Fz w z y cs n) (hF : ∀ b, Fz b → Fz' b) (hc : cutRow y l h = some y') (h0 : 0 ≤ l) (h1 : l ≤ h) (h2 : h ≤ n)
    (a : Addr) (m : Nat) (hm : h.toNat ≤ m) (hca : 0 < n → a.spot = none ∧ Fz' a.block ∧ CellsAt w a.block a.off cs) :
    RD Fz' w y' (.slice (some (if m = l.toNat then a else a.add (l.toNat * z))) (h.toNat - l.toNat) (m - l.toNat)) := by
  refine (hr.cut hc h0 h1 h2).toRD hF _ _ (by omega) fun hp => ?_
  obtain ⟨hs, hb, hcc⟩ := hca (by omega)
  rw [if_neg (by omega), add_spot hs]
  exact ⟨rfl, hb, hcc.cut _ _⟩

/-! arithmetic -/
theorem bitsI_run {w : World} (op : BinOp) (k : IntKind) (x y : Int) (h : op = .and ∨ op = .or ∨ op = .xor ∨ op = .andNot) : (Op.intBits op k x y).run P w = .ok (.int k (bitsI op k x y)) w := by
  rw [bitsI_eq]
  rcases h with rfl | rfl | rfl | rfl <;> rfl
theorem intOp_run {w : World} (t : TypeId) (op : BinOp) (k : IntKind) (x y : Int) (r : PD) (h : intOp op k x y = some r) : ∃ v, (binOp op t (.int k x) (.int k y)).run P w = .ok v w ∧ ∀ N γ Fz, V N γ Fz w (.pd r) v := by
  have num : ∀ n, r = .int k n → (binOp op t (.int k x) (.int k y)).run P w = .ok (.int k n) w → ∃ v, (binOp op t (.int k x) (.int k y)).run P w = .ok v w ∧ ∀ N γ Fz, V N γ Fz w (.pd r) v :=
    fun n hr h => ⟨_, h, fun _ _ _ => hr ▸ .pd _ _ (.int k n)⟩
  have boo : ∀ b, r = .bool b → (binOp op t (.int k x) (.int k y)).run P w = .ok (.bool b) w → ∃ v, (binOp op t (.int k x) (.int k y)).run P w = .ok v w ∧ ∀ N γ Fz, V N γ Fz w (.pd r) v :=
    fun n hr h => ⟨_, h, fun _ _ _ => hr ▸ .pd _ _ (.bool n)⟩
  cases op <;> simp only [intOp, Option.some.injEq, reduceCtorEq] at h
  · exact num _ h.symm (by rw [binOp_add]; rfl)
  · exact num _ h.symm (by rw [binOp_sub]; rfl)
  · exact num _ h.symm (by rw [binOp_mul]; rfl)
  · exact num _ h.symm (by rw [binOp_and]; exact bitsI_run P _ _ _ _ (by simp))
  · exact num _ h.symm (by rw [binOp_or]; exact bitsI_run P _ _ _ _ (by simp))
  · exact num _ h.symm (by rw [binOp_xor]; exact bitsI_run P _ _ _ _ (by simp))
  · exact num _ h.symm (by rw [binOp_andNot]; exact bitsI_run P _ _ _ _ (by simp))
  · exact boo _ h.symm (by rw [binOp_eql]; rfl)
  · exact boo _ h.symm (by rw [binOp_neq]; rfl)
  · exact boo _ h.symm (by rw [binOp_lss]; rfl)
  · exact boo _ h.symm (by rw [binOp_leq]; rfl)
  · exact boo _ h.symm (by rw [binOp_gtr]; rfl)
  · exact boo _ h.symm (by rw [binOp_geq]; rfl)
theorem strOp_run {w : World} (op : BinOp) (x y : ByteArray) (r : PD) (h : strOp op x y = some r) : ∃ b, r = .bool b ∧ (Op.stringOp op x y).run P w = .ok (.bool b) w := by
  cases op <;> simp only [strOp, Option.some.injEq, reduceCtorEq] at h <;> exact ⟨_, h.symm, rfl⟩
theorem binOp_string {w : World} (t : TypeId) (op : BinOp) (x y : ByteArray) : (binOp op t (.string x) (.string y)).run P w = (Op.stringOp op x y).run P w := by
  cases op <;> rfl
theorem equal_bool {w : World} {t : TypeId} (hT : P.underlying t = some .bool) (a b : Bool) : (Op.equal t (.bool a) (.bool b)).run P w = .ok (a == b) w := by
  have : ∀ d, (Op.equalIn (d + 1) t (.bool a) (.bool b)).run P w = .ok (a == b) w := by
    intro d
    simp only [Op.equalIn, Sem.run_bind, run_underlying hT, Result.andThen_ok]
    rfl
  exact this 9999
theorem opBin0_sure (op : BinOp) (t : TypeId) (x y : D) : Sure (opBin0 P op t x y) fun r => ∀ N γ Fz w u v (p q : Operand), V N γ Fz w x u → V N γ Fz w y v →
    ∃ o, (do eqGuard op t p q u v; binOp op t u v : Sem Value).run P w = .ok o w ∧ V N γ Fz w (.pd r) o := by
  have gi : ∀ {w : World} (k : IntKind) (n : Int) (v : Value) (p q : Operand) (o : Value), (binOp op t (.int k n) v).run P w = .ok o w → (do eqGuard op t p q (.int k n) v; binOp op t (.int k n) v : Sem Value).run P w = .ok o w := by
    intro w k n v p q o h
    simp only [Sem.run_bind, eqGuard_at_int, Sem.run_pure, Result.andThen_ok]
    exact h
  unfold opBin0
  split
  · rename_i k hk
    split
    · refine .bind (intD_sure x) fun p1 h1 => .bind (intD_sure y) fun p2 h2 => .iteF fun he => .need fun hb => .pure fun N γ Fz w u v p q hu hv => ?_
      obtain ⟨k1, a⟩ := p1; obtain ⟨k2, b⟩ := p2
      have e1 := h1 N γ Fz w u hu; have e2 := h2 N γ Fz w v hv
      simp only at e1 e2 he hb
      subst he e1 e2
      refine ⟨_, gi _ _ _ _ _ _ ?_, .pd _ _ (.int _ _)⟩
      have hb : ¬ b < 0 := by simpa using hb
      simp [binOp_shl, Op.shift, hb, shlI]
    · refine .bind (intD_sure x) fun p1 h1 => .bind (intD_sure y) fun p2 h2 => .iteF fun he => .need fun hb => .pure fun N γ Fz w u v p q hu hv => ?_
      obtain ⟨k1, a⟩ := p1; obtain ⟨k2, b⟩ := p2
      have e1 := h1 N γ Fz w u hu; have e2 := h2 N γ Fz w v hv
      simp only at e1 e2 he hb
      subst he e1 e2
      refine ⟨_, gi _ _ _ _ _ _ ?_, .pd _ _ (.int _ _)⟩
      have hb : ¬ b < 0 := by simpa using hb
      simp [binOp_shr, Op.shift, hb, shrI]
    · refine .bind (intD_sure x) fun p1 h1 => .bind (intD_sure y) fun p2 h2 => .iteF fun he => .need fun hb => .lift fun r hr N γ Fz w u v p q hu hv => ?_
      obtain ⟨k1, a⟩ := p1; obtain ⟨k2, b⟩ := p2
      have e1 := h1 N γ Fz w u hu; have e2 := h2 N γ Fz w v hv
      simp only at e1 e2 he hb hr
      obtain ⟨rfl, rfl⟩ := he
      subst e1 e2
      have hb : ¬ b = 0 := by simpa using hb
      simp only [divOp, Option.some.injEq] at hr
      subst hr
      exact ⟨_, gi _ _ _ _ _ _ (by simp [binOp_quo, Op.intDiv, hb]), .pd _ _ (.int _ _)⟩
    · refine .bind (intD_sure x) fun p1 h1 => .bind (intD_sure y) fun p2 h2 => .iteF fun he => .need fun hb => .lift fun r hr N γ Fz w u v p q hu hv => ?_
      obtain ⟨k1, a⟩ := p1; obtain ⟨k2, b⟩ := p2
      have e1 := h1 N γ Fz w u hu; have e2 := h2 N γ Fz w v hv
      simp only at e1 e2 he hb hr
      obtain ⟨rfl, rfl⟩ := he
      subst e1 e2
      have hb : ¬ b = 0 := by simpa using hb
      simp only [divOp, Option.some.injEq] at hr
      subst hr
      exact ⟨_, gi _ _ _ _ _ _ (by simp [binOp_rem, Op.intDiv, hb]), .pd _ _ (.int _ _)⟩
    · refine .bind (intD_sure x) fun p1 h1 => .bind (intD_sure y) fun p2 h2 => .iteF fun he => .lift fun r hr N γ Fz w u v p q hu hv => ?_
      obtain ⟨k1, a⟩ := p1; obtain ⟨k2, b⟩ := p2
      have e1 := h1 N γ Fz w u hu; have e2 := h2 N γ Fz w v hv
      simp only at e1 e2 he hr
      obtain ⟨rfl, rfl⟩ := he
      subst e1 e2
      obtain ⟨o, ho, hv⟩ := intOp_run P (w := w) t op _ a b r hr
      exact ⟨o, gi _ _ _ _ _ _ ho, hv N γ Fz⟩
  · split
    · refine .bindL fun a ha => .bindL fun b hb => ?_
      split
      · refine .need fun hlen => .pure fun N γ Fz w u v p q hu hv => ?_
        obtain ⟨_, rfl⟩ := hu.inv_pd.str? ha
        obtain ⟨_, rfl⟩ := hv.inv_pd.str? hb
        refine ⟨_, ?_, .pd _ _ (.str _)⟩
        have hlen : ¬ (9223372036854775807 : Int) < ((a.size + b.size : Nat) : Int) := by have := of_decide_eq_true hlen; omega
        simp only [Sem.run_bind, eqGuard_at_string, Sem.run_pure, Result.andThen_ok, binOp_string, Op.stringOp, IntKind.max_i64]
        rw [if_neg hlen]
        rfl
      · refine .lift fun r hr N γ Fz w u v p q hu hv => ?_
        obtain ⟨_, rfl⟩ := hu.inv_pd.str? ha
        obtain ⟨_, rfl⟩ := hv.inv_pd.str? hb
        obtain ⟨t', rfl, hrun⟩ := strOp_run P (w := w) op a b r hr
        refine ⟨_, ?_, .pd _ _ (.bool _)⟩
        simp only [Sem.run_bind, eqGuard_at_string, Sem.run_pure, Result.andThen_ok, binOp_string, hrun]
    · exact .fail
  · rename_i hT
    split
    · refine .bindL fun a ha => .bindL fun b hb => .lift fun r hr N γ Fz w u v p q hu hv => ?_
      obtain ⟨_, rfl⟩ := hu.inv_pd.bool? ha
      obtain ⟨_, rfl⟩ := hv.inv_pd.bool? hb
      cases op <;> simp only [boolOp, Option.some.injEq, reduceCtorEq] at hr
      · subst hr
        refine ⟨_, ?_, .pd _ _ (.bool _)⟩
        show ((do pure (.bool (← Op.equal t (.bool a) (.bool b))) : Sem Value)).run P w = _
        simp only [Sem.run_bind, equal_bool P hT, Result.andThen_ok, Sem.run_pure]
      · subst hr
        refine ⟨_, ?_, .pd _ _ (.bool _)⟩
        show ((do pure (.bool (!(← Op.equal t (.bool a) (.bool b)))) : Sem Value)).run P w = _
        simp only [Sem.run_bind, equal_bool P hT, Result.andThen_ok, Sem.run_pure]
    · exact .fail
  · exact .fail
theorem nil_run {w : World} {t e : TypeId} (hT : P.underlying t = some (.slice e)) (eq : Bool) (a : Option Addr) (l c : Nat) (p q : Operand) :
    (do eqGuard (if eq = true then BinOp.eql else .neq) t p q (.slice a l c) (.slice none 0 0); binOp (if eq = true then BinOp.eql else .neq) t (.slice a l c) (.slice none 0 0) : Sem Value).run P w = .ok (.bool (if eq = true then a.isNone else !a.isNone)) w := by
  cases eq
  · simp [eqGuard, binOp, run_equal_slice_nil w t e a l c hT]
  · simp [eqGuard, binOp, run_equal_slice_nil w t e a l c hT]
theorem opNil_sure {t e : TypeId} (hT : P.underlying t = some (.slice e)) (eq : Bool) (x y : D) (hy : isNilD y = true) : Sure (opNil eq x) fun r => ∀ N γ Fz w u v (p q : Operand), V N γ Fz w x u → V N γ Fz w y v →
    ∃ o, (do eqGuard (if eq = true then BinOp.eql else .neq) t p q u v; binOp (if eq = true then BinOp.eql else .neq) t u v : Sem Value).run P w = .ok o w ∧ V N γ Fz w (.pd r) o := by
  have hnil : ∀ N γ Fz w v, V N γ Fz w y v → v = .slice none 0 0 := fun N γ Fz w v h => by
    unfold isNilD at hy
    split at hy
    · exact h.inv_pd.inv_opq
    · cases hy
  have both : ∀ a : Option Addr, ∃ b, (if eq = true then a.isNone else !a.isNone) = b := fun a => ⟨_, rfl⟩
  unfold opNil
  split
  · refine .pure fun N γ Fz w u v p q hu hv => ?_
    obtain rfl := hnil _ _ _ _ _ hv
    obtain rfl := hu.inv_pd.inv_opq
    refine ⟨_, nil_run P hT eq none 0 0 p q, ?_⟩
    cases eq <;> exact .pd _ _ (.bool _)
  · rename_i k xs
    refine .split ?_
    cases hx : xs.isEmpty with
    | true =>
      refine .pure fun N γ Fz w u v p q hu hv => ?_
      obtain rfl := hnil _ _ _ _ _ hv
      rcases hu.inv_pd.inv_nums with ⟨_, rfl⟩ | ⟨a, cap, rfl, _⟩ <;> exact ⟨_, nil_run P hT eq _ _ _ p q, .pd _ _ (.anyb _)⟩
    | false =>
      refine .pure fun N γ Fz w u v p q hu hv => ?_
      obtain rfl := hnil _ _ _ _ _ hv
      rcases hu.inv_pd.inv_nums with ⟨rfl, _⟩ | ⟨a, cap, rfl, _⟩
      · cases hx
      · refine ⟨_, nil_run P hT eq _ _ _ p q, ?_⟩
        cases eq <;> exact .pd _ _ (.bool _)
  · rename_i z xs
    refine .split ?_
    cases hx : xs.isEmpty with
    | true =>
      refine .pure fun N γ Fz w u v p q hu hv => ?_
      obtain rfl := hnil _ _ _ _ _ hv
      rcases hu.inv_pd.inv_sl with ⟨_, rfl⟩ | ⟨a, cap, vf, rfl, _⟩ <;> exact ⟨_, nil_run P hT eq _ _ _ p q, .pd _ _ (.anyb _)⟩
    | false =>
      refine .pure fun N γ Fz w u v p q hu hv => ?_
      obtain rfl := hnil _ _ _ _ _ hv
      rcases hu.inv_pd.inv_sl with ⟨rfl, _⟩ | ⟨a, cap, vf, rfl, _⟩
      · cases hx
      · refine ⟨_, nil_run P hT eq _ _ _ p q, ?_⟩
        cases eq <;> exact .pd _ _ (.bool _)
  · exact .fail
theorem partP_ok {t : TypeId} {off : Nat} {xs : List PD} {y : PD} (h : partP P t off xs = some y) {Fz : Nat → Prop} {w : World} {cs : Array Value} (hr : RD Fz w (.agg xs) (.agg cs)) : PartOf P t Fz w (.agg cs) off y := by
  obtain ⟨vs, e, hs, ho, hv⟩ := hr.inv_agg
  cases e
  unfold partP at h
  split at h
  · rename_i ha
    split at h
    · rename_i hl
      cases h
      obtain ⟨hl, h0⟩ := hl
      simp only [List.length_take, List.length_drop] at hl
      refine .inl ⟨ha, h0, by simp [Value.cells]; omega, .agg _ _ ?_ (fun u hu => ho u ?_) fun i hi => ?_⟩
      · simp [Value.cells]
        omega
      · have : u ∈ (cs.extract off (off + P.cellsOf t)).toList := by simpa [Value.cells] using hu
        rw [Array.toList_extract, List.extract_eq_take_drop] at this
        exact List.mem_of_mem_drop (List.mem_of_mem_take this)
      · simp only [List.length_take, List.length_drop] at hi
        have hoi : off + i < xs.length := by omega
        have h1 := hv (off + i) hoi
        rw [getD_lt _ _ (by omega)] at h1
        rw [getD_lt _ _ (by simp [Value.cells]; omega)]
        simp only [Value.cells, Array.getElem_extract, List.getElem_take, List.getElem_drop]
        exact h1
    · cases h
  · rename_i ha
    split at h
    · rename_i hsc
      obtain ⟨hlt, rfl⟩ := List.getElem?_eq_some_iff.1 h
      have h1 := hv off hlt
      rw [getD_lt _ _ (by omega)] at h1
      exact .inr ⟨by simpa using ha, hsc, cs[off]'(by omega), by simp [Value.cells, hs, hlt], ho _ (by simp), h1⟩
    · cases h
theorem eqFs_ok {eq : TypeId → PD → PD → Option Bool} {d : Nat} {Fz : Nat → Prop} {w : World} (heq : ∀ t x y b u v, eq t x y = some b → RD Fz w x u → RD Fz w y v → (Op.equalIn d t u v).run P w = .ok b w) {xs ys : List PD} {cs es : Array Value}
    (hx : RD Fz w (.agg xs) (.agg cs)) (hy : RD Fz w (.agg ys) (.agg es)) : ∀ (fs : List Field) (b : Bool), eqFs P eq xs ys fs = some b → (Op.eqFields d cs es fs).run P w = .ok b w
  | [], b, h => by
    cases h
    simp [Op.eqFields]
  | f :: fs, b, h => by
    unfold eqFs at h
    split at h
    · cases h
    · rename_i hn
      obtain ⟨a, ha, h⟩ := Option.bind_eq_some_iff.1 h
      obtain ⟨c, hc, h⟩ := Option.bind_eq_some_iff.1 h
      obtain ⟨r, hr, h⟩ := Option.bind_eq_some_iff.1 h
      obtain ⟨q, hq, rfl⟩ := Option.map_eq_some_iff.1 h
      obtain ⟨u, hu, hur⟩ := run_part_of (P := P) (w := w) (partP_ok P ha hx)
      obtain ⟨v, hv, hvr⟩ := run_part_of (P := P) (w := w) (partP_ok P hc hy)
      have ih := eqFs_ok heq hx hy fs q hq
      simp only [Op.eqFields, ne_eq, hn, not_false_eq_true, if_true, Sem.run_bind, hu, hv, Result.andThen_ok, heq _ _ _ _ _ _ hr hur hvr]
      cases r
      · simp
      · simpa using ih
theorem eqItems_ints {e : TypeId} {k k' : IntKind} (hu : P.underlying e = some (.int k')) (hc : P.cellsOf e = 1) (d : Nat) {w : World} (xs ys : List Int) (hl : xs.length = ys.length) : ∀ (n i : Nat), i + n = xs.length →
    (Op.eqItems (d + 1) e (P.cellsOf e) (xs.map (Value.int k)).toArray (ys.map (Value.int k)).toArray (List.range' i n)).run P w = .ok (xs.drop i == ys.drop i) w
  | 0, i, h => by
    rw [List.drop_of_length_le (by omega), List.drop_of_length_le (by omega)]
    simp [Op.eqItems]
  | n + 1, i, h => by
    have ih := eqItems_ints (k := k) hu hc d (w := w) xs ys hl n (i + 1) (by omega)
    have hx : i < xs.length := by omega
    have hy : i < ys.length := by omega
    have hagg : aggT P e = false := by unfold aggT; rw [hu]
    have hsc : scalT P e = true := by unfold scalT; rw [hu]
    have part1 : ∀ zs : List Int, (hz : i < zs.length) → (part e (zs.map (Value.int k)).toArray (i * P.cellsOf e)).run P w = .ok (.int k zs[i]) w := fun zs hz => by
      have hi : ((zs.map (Value.int k)).toArray)[i * P.cellsOf e]? = some (.int k zs[i]) := by rw [hc]; simp [hz]
      simp [part, run_isAgg_f hsc, hi]
    rw [List.range'_succ]
    rw [hc] at ih ⊢
    have p1 := part1 xs hx
    have p2 := part1 ys hy
    rw [hc] at p1 p2
    simp only [Op.eqItems, Sem.run_bind, p1, p2, Result.andThen_ok, run_equalIn_int w d e k k' _ _ hu]
    rw [List.drop_eq_getElem_cons hx, List.drop_eq_getElem_cons hy, List.cons_beq_cons]
    cases h : (xs[i] == ys[i]) with
    | false => simp
    | true => simpa using ih
theorem eqV_ok : ∀ (n k : Nat) (t : TypeId) (x y : PD) (b : Bool) (Fz : Nat → Prop) (w : World) (u v : Value), eqV P n t x y = some b → RD Fz w x u → RD Fz w y v → (Op.equalIn (n + 1 + k) t u v).run P w = .ok b w
  | 0, k, t, x, y, b, Fz, w, u, v, h, hx, hy => by cases h
  | n + 1, k, t, x, y, b, Fz, w, u, v, h, hx, hy => by
    have e1 : n + 1 + 1 + k = (n + 1 + k) + 1 := by omega
    rw [e1]
    unfold eqV at h
    split at h
    · rename_i q hu
      split at h
      · split at h
        · rename_i e
          cases h
          subst e
          cases hx.inv_int
          cases hy.inv_int
          exact run_equalIn_int w _ t _ q _ _ hu
        · cases h
      · cases h
    · rename_i hu
      split at h
      · cases h
        cases hx.inv_bool
        cases hy.inv_bool
        exact run_equalIn_bool w _ t _ _ hu
      · cases h
    · rename_i hu
      split at h
      · cases h
        cases hx.inv_str
        cases hy.inv_str
        exact run_equalIn_string w _ t _ _ hu
      · cases h
    · rename_i fs hu
      split at h
      · cases h
      · rename_i hst
        split at h
        · rename_i xs ys
          obtain ⟨cs, rfl, _⟩ := hx.inv_agg
          obtain ⟨es, rfl, _⟩ := hy.inv_agg
          have hfs : P.fieldsOf t = fs := by simp [Program.fieldsOf, hu]
          rw [run_equalIn_struct w _ t cs es (by rw [hfs]; exact hu) (by simpa using hst), hfs]
          exact eqFs_ok P (fun t x y b u v h hx hy => eqV_ok n k t x y b Fz w u v h hx hy) hx hy fs.toList b h
        · cases h
    · rename_i m e hu
      split at h
      · rename_i q he
        split at h
        · rename_i k1 m1 xs k2 m2 ys
          split at h
          · rename_i hh
            obtain ⟨e2, e3, e4, hc⟩ := hh
            subst e2 e3 e4
            cases h
            obtain ⟨hl1, rfl⟩ := hx.inv_arr
            obtain ⟨hl2, rfl⟩ := hy.inv_arr
            obtain ⟨i, hi⟩ : ∃ i, P.info? e = some i := info_of_underlying he
            rw [run_equalIn_array w _ _ _ hu hi]
            have := eqItems_ints P he hc (n + k) (w := w) (k := k2) xs ys (by omega) m2 0 (by omega)
            rw [List.range_eq_range', show n + 1 + k = n + k + 1 by omega]
            simpa using this
          · cases h
        · cases h
      · cases h
    · cases h
theorem eqV_agg {n : Nat} {t : TypeId} {x y : PD} {b : Bool} (ht : aggT P t = true) (h : eqV P n t x y = some b) {Fz : Nat → Prop} {w : World} {u v : Value} (hx : RD Fz w x u) (hy : RD Fz w y v) : ∃ cs es, u = .agg cs ∧ v = .agg es := by
  cases n with
  | zero => cases h
  | succ n =>
    unfold eqV at h
    unfold aggT at ht
    split at h
    · rename_i hu; rw [hu] at ht; cases ht
    · rename_i hu; rw [hu] at ht; cases ht
    · rename_i hu; rw [hu] at ht; cases ht
    · split at h
      · cases h
      · split at h
        · obtain ⟨cs, rfl, _⟩ := hx.inv_agg
          obtain ⟨es, rfl, _⟩ := hy.inv_agg
          exact ⟨_, _, rfl, rfl⟩
        · cases h
    · split at h
      · split at h
        · obtain ⟨_, rfl⟩ := hx.inv_arr
          obtain ⟨_, rfl⟩ := hy.inv_arr
          exact ⟨_, _, rfl, rfl⟩
        · cases h
      · cases h
    · cases h
theorem opEqS_sure (t : TypeId) (ht : aggT P t = true) (x y : D) : Sure (opEqS P t x y) fun b => ∀ N γ Fz w u v, V N γ Fz w x u → V N γ Fz w y v → (Op.equalIn 10000 t u v).run P w = .ok b w ∧ P.eqGuardType P.depth t = false ∧ ∃ cs es, u = .agg cs ∧ v = .agg es := by
  unfold opEqS
  split
  · refine .ite (fun _ => .fail) fun hg => .lift fun b hb N γ Fz w u v hu hv => ⟨?_, by simpa using hg, eqV_agg P ht hb hu.inv_pd hv.inv_pd⟩
    exact eqV_ok P 30 9969 t _ _ b Fz w u v hb hu.inv_pd hv.inv_pd
  · exact .fail
theorem opBin_sure (op : BinOp) (t : TypeId) (x y : D) : Sure (opBin P op t x y) fun r => ∀ N γ Fz w u v (p q : Operand), V N γ Fz w x u → V N γ Fz w y v →
    ∃ o, (do eqGuard op t p q u v; binOp op t u v : Sem Value).run P w = .ok o w ∧ V N γ Fz w (.pd r) o := by
  have str : aggT P t = true → Sure (match op with
      | .eql => C.bind (opEqS P t x y) fun b => C.pure (.bool b)
      | .neq => C.bind (opEqS P t x y) fun b => C.pure (.bool !b)
      | _ => (C.fail : C PD)) fun r => ∀ N γ Fz w u v (p q : Operand), V N γ Fz w x u → V N γ Fz w y v →
    ∃ o, (do eqGuard op t p q u v; binOp op t u v : Sem Value).run P w = .ok o w ∧ V N γ Fz w (.pd r) o := fun ht => by
    split
    · refine .bind (opEqS_sure P t ht x y) fun b hb => .pure fun N γ Fz w u v p q hu hv => ?_
      obtain ⟨h1, h2, cs, es, rfl, rfl⟩ := hb N γ Fz w u v hu hv
      refine ⟨.bool b, ?_, .pd _ _ (.bool b)⟩
      simp only [Sem.run_bind, run_eqGuard_agg w _ t p q _ _ h2, Result.andThen_ok, run_eql_struct, h1]
    · refine .bind (opEqS_sure P t ht x y) fun b hb => .pure fun N γ Fz w u v p q hu hv => ?_
      obtain ⟨h1, h2, cs, es, rfl, rfl⟩ := hb N γ Fz w u v hu hv
      refine ⟨.bool !b, ?_, .pd _ _ (.bool _)⟩
      simp only [Sem.run_bind, run_eqGuard_agg w _ t p q _ _ h2, Result.andThen_ok, run_neq_struct, h1]
    · exact .fail
  unfold opBin
  split
  · rename_i e hT
    split
    · refine .iteF fun hy => ?_
      have := opNil_sure P hT true x y hy
      exact this
    · refine .iteF fun hy => ?_
      have := opNil_sure P hT false x y hy
      exact this
    · exact .fail
  · rename_i hT; exact str (by unfold aggT; rw [hT])
  · rename_i hT; exact str (by unfold aggT; rw [hT])
  · exact opBin0_sure P op t x y
theorem opUn_sure (op : UnOp) (x : D) : Sure (opUn op x) fun r => ∀ N γ Fz w v, V N γ Fz w x v → ∃ u, (Op.unary op v).run P w = .ok u w ∧ V N γ Fz w (.pd r) u := by
  have anyI : ∀ {y : PD} {p : IntKind × Int} {Fz : Nat → Prop} {w : World} {v : Value}, RD Fz w y v → y.anyInt? = some p → v = .int p.1 p.2 := by
    intro y p Fz w v h hy
    cases y <;> simp [PD.anyInt?] at hy
    subst hy
    exact h.inv_int
  unfold opUn
  split
  · split
    · refine .bindL fun b hb => .pure fun N γ Fz w v h => ?_
      obtain ⟨_, rfl⟩ := h.inv_pd.bool? hb
      exact ⟨_, rfl, .pd _ _ (.bool _)⟩
    · refine .bindL fun p hp => .pure fun N γ Fz w v h => ?_
      obtain rfl := anyI h.inv_pd hp
      exact ⟨_, rfl, .pd _ _ (.int _ _)⟩
    · refine .bindL fun p hp => .pure fun N γ Fz w v h => ?_
      obtain rfl := anyI h.inv_pd hp
      refine ⟨_, ?_, .pd _ _ (.int _ _)⟩
      show (Op.intBits .xor p.1 (if p.1.signed = true then -1 else p.1.max) p.2).run P w = _
      exact bitsI_run P _ _ _ _ (by simp)
    · exact .fail
  · exact .fail
end ops
end Go.Ev
