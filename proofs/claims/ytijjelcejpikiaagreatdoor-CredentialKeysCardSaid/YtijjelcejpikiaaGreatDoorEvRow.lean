/-
From a function's outcome to a row's walk; what the arguments read as.
-/
import Derived.Test.YtijjelcejpikiaaGreatDoorEvSnd21
import Derived.Below
set_option linter.unusedVariables false
set_option linter.unusedSimpArgs false
namespace Go.Ev
variable [Globs]
set_option linter.unusedSectionVars false
open Go.RowKit
/-- No table: nothing to show. -/
theorem GlobOk.none {Fz : Nat → Prop} {w : World} (h : ∀ g, Globs.tab g = Option.none) : GlobOk Fz w := fun g x hg => by rw [h g] at hg; cases hg
/-- Nothing of what is there is written. -/
theorem Frm.below {w0 w : World} {W0 : Nat → Prop} (h : Frm w0 W0 w) (hW : ∀ b, ¬ W0 b) : Below w0.heap.size w0 w := ⟨h.os, h.tape, h.output, h.size, fun k hk => h.block k hk (hW k)⟩
theorem FnOK.calls {P : Program} {g : FuncId} {args : List D} {r : D × List Ob} (h : FnOK P g args [] r) {fn : Func} (hf : P.funcs[g]? = some fn) (hb : fn.body.isSome = true) (hn : fn.name ≠ "runtime.NumGoroutine") (W : World) (hG : GlobOk (· < W.heap.size) W) (vs : List Value) (hl : vs.length = args.length)
    (hv : ∀ i (h : i < args.length), V (fun _ => False) (fun _ => undef) (· < W.heap.size) W args[i] (vs.getD i undef)) :
    Calls P g vs.toArray W fun e W' => ∃ v, e = .returned v ∧ Below W.heap.size W W' ∧ ∃ N γ Fz, V N γ Fz W' r.1 v := by
  have hrun := h W (· < W.heap.size) (fun _ => undef) vs hl ⟨⟨rfl, rfl, rfl, Nat.le_refl _, fun _ _ _ => rfl⟩, fun b hb => hb, fun b hb => hb, fun b hb => .inl hb, fun o ob ho => by simp at ho, fun o ob ho => by simp at ho, fun o ob ho => by simp at ho, fun o ho => by simp at ho, hG⟩
    fun i hi => (hv i hi).frame (fun o h => h.elim) (fun b h => h) fun _ _ => rfl
  rcases hrun with ⟨_, hc⟩ | ⟨v, w', h1, _⟩
  · refine hc.mono fun e W' ⟨v, he, N', γ', F', hrel, _, _, hv'⟩ => ⟨v, he, hrel.frm.below fun b ⟨o, ob, ho, _⟩ => by simp at ho, N', γ', F', hv'⟩
  · exfalso
    obtain ⟨c, hc⟩ := Option.isSome_iff_exists.1 hb
    simp [callFunc, hf, hn, hc] at h1
theorem FnOK.true {P : Program} {g : FuncId} {args : List D} {hp : List Ob} (h : FnOK P g args [] (.pd (.bool true), hp)) {fn : Func} (hf : P.funcs[g]? = some fn) (hb : fn.body.isSome = true) (hn : fn.name ≠ "runtime.NumGoroutine") (W : World) (hG : GlobOk (· < W.heap.size) W) (vs : List Value) (hl : vs.length = args.length)
    (hv : ∀ i (h : i < args.length), V (fun _ => False) (fun _ => undef) (· < W.heap.size) W args[i] (vs.getD i undef)) :
    Calls P g vs.toArray W fun e W' => e = .returned (.bool true) ∧ Below W.heap.size W W' :=
  (h.calls hf hb hn W hG vs hl hv).mono fun e W' ⟨v, he, hB, N, γ, Fz, hv'⟩ => ⟨by rw [he, hv'.inv_pd.inv_bool], hB⟩
/-- A slice of integers that came in. -/
theorem RD.of_row {W : World} {k : IntKind} {a : Option Addr} {len cap : Nat} {zs : List Int} (h : (a = none ∧ len = 0 ∧ cap = 0 ∧ zs = []) ∨ ∃ x, a = some x ∧ len ≤ cap ∧ zs.length = cap ∧ ∀ i, i < zs.length → W.cell? (x.add i) = some (.int k (zs.getD i 0))) :
    RD (· < W.heap.size) W (.nums k (zs.take len)) (.slice a len cap) := by
  rcases h with ⟨rfl, rfl, rfl, rfl⟩ | ⟨x, rfl, hl, hz, hc⟩
  · exact .nilNums k
  · have hlen : (zs.take len).length = len := by simp; omega
    have : RD (· < W.heap.size) W (.nums k (zs.take len)) (.slice (some x) (zs.take len).length cap) := by
      refine .nums k _ x cap (by omega) fun h0 => ?_
      have hcell0 := hc 0 (by omega)
      have hx0 : x.add 0 = x := by simp [Addr.add]
      rw [hx0] at hcell0
      have hs : x.spot = none := by
        unfold World.cell? at hcell0
        split at hcell0
        · split at hcell0
          · cases hcell0
          · rename_i hsp
            cases hxs : x.spot with
            | none => rfl
            | some s => simp [hxs] at hsp
        · cases hcell0
      have hb : x.block < W.heap.size := by
        rcases Nat.lt_or_ge x.block W.heap.size with h | h
        · exact h
        · simp [World.cell?, Array.getElem?_eq_none h] at hcell0
      refine ⟨hs, hb, fun j v hj => ?_⟩
      have hj' : j < (zs.take len).length := by simpa using (List.getElem?_eq_some_iff.1 hj).1
      have hcj := hc j (by omega)
      rw [add_spot hs] at hcj
      rw [hcj]
      simp only [List.getElem?_map, List.getElem?_take] at hj
      split at hj
      · have hjl : j < zs.length := by omega
        simp only [List.getElem?_eq_getElem hjl, Option.map_some, Option.some.injEq] at hj
        rw [← hj]
        simp [List.getD, hjl]
      · cases hj
    rwa [hlen] at this
end Go.Ev
