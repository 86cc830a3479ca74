/-
slices.Insert of one element in a row of the call's own: function 34 (elements of 2 cells), by its own text.
-/
import Derived.Test.YthoooflagabpoaaEvOpen
import Derived.Test.YthoooflagabpoaaProg
import Derived.WalkKit
import Derived.Lib.Walk
import Derived.Lib.SliceRun
import Derived.Lib.JoinLaws
import Derived.Lib.Overlaps
import Derived.Lib.AppendZerosOnto
import Derived.Laws.Externs
set_option linter.unusedVariables false
set_option linter.unusedSimpArgs false
namespace Go.Proofs.Ythoooflagabpoaa
open Go Go.Ev Go.RowKit Go.Lib
theorem flat_take {z : Nat} : ∀ (vs : List Value) (i : Nat), (∀ v ∈ vs, v.cells.size = z) → i ≤ vs.length → (vs.flatMap (·.cells.toList)).take (i * z) = (vs.take i).flatMap (·.cells.toList) ∧ (vs.flatMap (·.cells.toList)).drop (i * z) = (vs.drop i).flatMap (·.cells.toList)
  | vs, 0, _, _ => by simp
  | [], i + 1, _, h => by simp at h
  | v :: vs, i + 1, h, hi => by
    have hv : v.cells.toList.length = z := by simpa using h v (by simp)
    obtain ⟨h1, h2⟩ := flat_take vs i (fun u hu => h u (by simp [hu])) (by simpa using hi)
    have e : (i + 1) * z = v.cells.toList.length + i * z := by rw [hv, Nat.add_mul]; omega
    simp only [List.flatMap_cons, List.take_succ_cons, List.drop_succ_cons, e]
    constructor
    · rw [List.take_append, List.take_of_length_le (by omega), Nat.add_sub_cancel_left, h1]
    · rw [List.drop_append, List.drop_of_length_le (by omega), Nat.add_sub_cancel_left, h2, List.nil_append]
theorem RowR_insert {Fz : Nat → Prop} {w : World} {z : Nat} {xs ys : List PD} {cs ns : List Value} {n m : Nat} (h : RowR Fz w z (.sl z xs) cs n) (h' : RowR Fz w z (.sl z ys) ns m) {i : Nat} (hi : i ≤ n) :
    RowR Fz w z (.sl z (xs.take i ++ ys ++ xs.drop i)) (cs.take (i * z) ++ ns ++ cs.drop (i * z)) (n + m) := by
  obtain ⟨_, rfl, vs, hl, rfl, hc, hr⟩ := h
  obtain ⟨_, rfl, us, hl', rfl, hc', hr'⟩ := h'
  obtain ⟨e1, e2⟩ := flat_take (z := z) vs i (fun v hv => (hc v hv).1) (by omega)
  refine ⟨rfl, by simp; omega, vs.take i ++ us ++ vs.drop i, by simp; omega, by rw [e1, e2]; simp, fun v hv => ?_, fun j hj => ?_⟩
  · rcases List.mem_append.1 hv with hv | hv
    · rcases List.mem_append.1 hv with hv | hv
      · exact hc v (List.mem_of_mem_take hv)
      · exact hc' v hv
    · exact hc v (List.mem_of_mem_drop hv)
  · have hlt : j < (vs.take i ++ us ++ vs.drop i).length := by simp at hj ⊢; omega
    rw [show (vs.take i ++ us ++ vs.drop i).getD j undef = (vs.take i ++ us ++ vs.drop i)[j] by rw [List.getD_eq_getElem?_getD, List.getElem?_eq_getElem hlt]; rfl]
    have gx : ∀ k (hk : k < xs.length), RD Fz w xs[k] (vs[k]'(by omega)) := fun k hk => by
      have := hr k hk
      rwa [show vs.getD k undef = vs[k]'(by omega) by simp [List.getD, show k < vs.length by omega]] at this
    have gy : ∀ k (hk : k < ys.length), RD Fz w ys[k] (us[k]'(by omega)) := fun k hk => by
      have := hr' k hk
      rwa [show us.getD k undef = us[k]'(by omega) by simp [List.getD, show k < us.length by omega]] at this
    simp only [List.getElem_append, List.length_append, List.length_take, List.getElem_take, List.getElem_drop, hl, hl', Nat.min_eq_left hi] at hlt ⊢
    split
    · rename_i h1
      split
      · rename_i h2
        exact gx j (by omega)
      · exact gy _ (by omega)
    · exact gx _ (by simp at hj; omega)
theorem wpList_append_run {P : Program} (w : World) {ops : Array Oper} {rest : List Oper} {o : Oper} {a : Act} {Q : Exit → Act → World → Prop} (hgd : o.guard = none) (d s : Operand) (t t' : TypeId)
    (ho : o.op = .call { callee := .builtin .append, args := #[d, s], argTypes := #[t, t'] }) (v u : Value) (hd : a.eval d = v) (hs : a.eval s = u) {v' : Value} {w' : World}
    (hr : (Builtin.append_ #[t, t'] o.type #[v, u]).run P w = .ok v' w') (h : wpList P ops Q rest (a.put o.dst v') w') : wpList P ops Q (o :: rest) a w :=
  wpList_plain hgd fun K hK => by
    unfold Oper.wp execOp
    simp only [ho, resolve, invoke, builtin, Sem.run_bind, Sem.run_pure, Result.andThen_ok, List.map_toArray, List.map_cons, List.map_nil, hd, hs, hr]
    exact hK _ _ h
theorem wpList_copy_run {P : Program} (w : World) {ops : Array Oper} {rest : List Oper} {o : Oper} {a : Act} {Q : Exit → Act → World → Prop} (hgd : o.guard = none) (d s : Operand) (t t' : TypeId)
    (ho : o.op = .call { callee := .builtin .copy, args := #[d, s], argTypes := #[t, t'] }) (v u : Value) (hd : a.eval d = v) (hs : a.eval s = u) {v' : Value} {w' : World}
    (hr : (Builtin.copy_ #[t, t'] o.type #[v, u]).run P w = .ok v' w') (h : wpList P ops Q rest (a.put o.dst v') w') : wpList P ops Q (o :: rest) a w :=
  wpList_plain hgd fun K hK => by
    unfold Oper.wp execOp
    simp only [ho, resolve, invoke, builtin, Sem.run_bind, Sem.run_pure, Result.andThen_ok, List.map_toArray, List.map_cons, List.map_nil, hd, hs, hr]
    exact hK _ _ h
theorem step_copy_run {P : Program} {ops : Array Oper} {o : Oper} {a : Act} {w : World} {K : Act → World → Prop} {Q : Exit → Act → World → Prop} {E : Prop}
    (hg : o.guard = none) (d x : Operand) (dT sT : TypeId) (hop : o.op = Op.call { callee := Callee.builtin Builtin.copy, args := #[d, x], argTypes := #[dT, sT] })
    (v u : Value) (hd : a.eval d = v) (hx : a.eval x = u) {v' : Value} {w' : World} (hr : (Builtin.copy_ #[dT, sT] o.type #[v, u]).run P w = .ok v' w') (hK : K (a.put o.dst v') w') :
    if Region.wanted o (yielded ops a.tmps) = true then Oper.wp P o a w K Q else E := by
  have hw : Region.wanted o (yielded ops a.tmps) = true := by simp [Region.wanted, hg]
  rw [if_pos hw]
  unfold Oper.wp
  simp [execOp, hop, resolve, invoke, builtin, hd, hx, hr, Result.andThen]
  exact hK
/-- copy into a row's block: the cells o, .. of it are news. -/
theorem run_copy_block {P : Program} (w : World) (T e : TypeId) (z : Nat) (hT : P.underlying T = some (.slice e)) (hsz : (P.info? e).map (·.size) = some z) (ty : TypeId) (b o dLen dCap : Nat) (a : Addr) (sLen sCap : Nat) (cur : Array Value) (E : TypeId) (fz : Nat × Nat) (news : List Value)
    (hb : w.heap[b]? = some (.cells cur E fz)) (hf : FzOk fz cur.size) (hfit : o + news.length ≤ cur.size) (h1 : ∀ v ∈ news, OneC v) (hnl : news.length = (Nat.min sLen dLen) * z) (hsrc : ∀ j v, news[j]? = some v → w.cell? (a.add j) = some v) :
    (Builtin.copy_ #[T, T] ty #[.slice (some ⟨b, o, none⟩) dLen dCap, .slice (some a) sLen sCap]).run P w = .ok (goInt (Nat.min sLen dLen)) (w.setRow b (cur.toList.take o ++ news ++ cur.toList.drop (o + news.length)).toArray) := by
  obtain ⟨i, hi, hiz⟩ := Option.map_eq_some_iff.1 hsz
  have hst := run_storeCells_row P b o E fz news 0 cur w hb hf (by simpa using hfit) h1
  have hfc := run_firstCells_some (P := P) w z (Nat.min sLen dLen) a sLen sCap news hnl hsrc
  simp only [Nat.add_zero] at hst
  simp [Builtin.copy_, run_underlying hT, sizeOf, typeInfo, hi, hiz, Builtin.lenOf, hfc, hst]
end Go.Proofs.Ythoooflagabpoaa
