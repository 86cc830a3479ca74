/-
One operation: new rows, append.
-/
import Derived.Test.YtijjelcejpikiaaGreatDoorEvSnd7
import Derived.Laws.MakeOwn
set_option linter.unusedVariables false
set_option linter.unusedSimpArgs false
namespace Go.Ev
variable [Globs]
set_option linter.unusedSectionVars false
section rel
variable {w0 : World} {F0 W0 N : Nat → Prop} {γ : Nat → Value} {Fz : Nat → Prop} {H : Nat → Option Ob} {w w' : World}
theorem Rel.blk_lt (h : Rel w0 F0 W0 N γ Fz H w) {o : Nat} {ob : Ob} (hH : H o = some ob) (hw : ob.own = true) {b : Nat} (e : blkOf (γ o) = some b) : b < w.heap.size := by
  have := h.obs o ob hH
  cases ob with
  | cells ds => obtain ⟨b', cs, E, e', hb', _⟩ := this; rw [e'] at e; cases e; exact (Array.getElem?_eq_some_iff.1 hb').1
  | ints k m xs => obtain ⟨b', E, e', hb', _⟩ := this; rw [e'] at e; cases e; exact (Array.getElem?_eq_some_iff.1 hb').1
  | flags m bs => obtain ⟨b', E, e', hb', _⟩ := this; rw [e'] at e; cases e; exact (Array.getElem?_eq_some_iff.1 hb').1
  | arr z e2 x =>
    obtain ⟨n, cs, _, ho⟩ := this
    rcases ho.row with ⟨e', _⟩ | ⟨b', cap, cur, fz, e', hb', _⟩
    · rw [e'] at e; cases e
    · rw [e'] at e; cases e; exact (Array.getElem?_eq_some_iff.1 hb').1
  | froz x => cases hw
  | dead => cases hw
/-- A new row under a new name: in a new block, or in a block that no object owns. -/
theorem Rel.newRow (h : Rel w0 F0 W0 N γ Fz H w) (fr : Nat) (hfr : ¬ N fr) (z : Nat) (e : TypeId) (x : PD) (n : Nat) (cs : List Value) (g : Value) (hb : But w w' (blkOf g)) (hone : OneC g)
    (hrow : RowR Fz w z x cs n) (hown : OwnRow w' e z g n cs)
    (hfree : ∀ b, blkOf g = some b → ¬ Fz b ∧ (w0.heap.size ≤ b ∨ W0 b) ∧ ∀ o' ob', o' ≠ fr → H o' = some ob' → ob'.own = true → blkOf (γ o') ≠ some b) :
    ∃ N' γ', Go1 w0 F0 W0 fr N γ Fz w N' γ' Fz (upd H fr (some (.arr z e x))) w' ∧ V N' γ' Fz w' (.ref fr) g := by
  refine ⟨_, _, h.put fr fr (.arr z e x) g (fun hN => absurd hN hfr) (fun _ => ⟨Nat.le_refl _, by omega⟩) (by simpa [Ob.own] using hb) (fun _ b hbl => hfree b hbl) ?_, ?_⟩
  · refine ⟨n, cs, hrow.frame (fun _ h => h) fun b hF => ?_, hown⟩
    exact hb.block b (h.fzlt b hF) fun e => (hfree b e).1 hF
  · have : V (fun i => N i ∨ i = fr) (upd γ fr g) Fz w' (.ref fr) (upd γ fr g fr) := .ref fr (.inr rfl) (by rw [upd_same]; exact hone)
    rwa [upd_same] at this
theorem Rel.freeNew (h : Rel w0 F0 W0 N γ Fz H w) (fr : Nat) (b : Nat) (hb : b = w.heap.size) : ¬ Fz b ∧ (w0.heap.size ≤ b ∨ W0 b) ∧ ∀ o' ob', o' ≠ fr → H o' = some ob' → ob'.own = true → blkOf (γ o') ≠ some b := by
  subst hb
  exact ⟨fun hF => Nat.lt_irrefl _ (h.fzlt _ hF), .inl h.frm.size, fun o' ob' _ hH hw e => Nat.lt_irrefl _ (h.blk_lt hH hw e)⟩
end rel

section run
variable (P : Program)
theorem zeroE_some {e : TypeId} {v : Value} (h : zeroE P e = some v) : ∃ i, P.info? e = some i ∧ i.zero = some v ∧ i.size = P.cellsOf e ∧ i.bytes = P.bytesOf e ∧ v.cells.size = P.cellsOf e ∧ 0 < P.cellsOf e ∧ 0 < P.bytesOf e ∧ konOk v = true := by
  unfold zeroE at h
  split at h
  · rename_i u hu
    split at h
    · cases h
      obtain ⟨i, hi, hz⟩ := Option.bind_eq_some_iff.1 hu
      rename_i hc
      exact ⟨i, hi, hz, by simp [Program.cellsOf, hi], by simp [Program.bytesOf, hi], hc⟩
    · cases h
  · cases h
theorem elemT_some {T e : TypeId} (h : elemT P T = some e) : P.underlying T = some (.slice e) := by
  unfold elemT at h
  split at h
  · cases h; assumption
  · cases h
theorem OwnRow.app_lt {w : World} {e : TypeId} {z : Nat} {v : Value} {n : Nat} {cs : List Value} (h : OwnRow w e z v n cs) : ∀ b, blkOf v = some b → b < w.heap.size := by
  intro b hb
  rcases h.row with ⟨e', _⟩ | ⟨b', cap, cur, fz, e', hb', _⟩
  · rw [e'] at hb; cases hb
  · rw [e'] at hb; cases hb; exact (Array.getElem?_eq_some_iff.1 hb').1
/-- append, whatever is appended: in place, or in a new block. -/
theorem run_append_gen {w : World} {t u ty e : TypeId} {i : TypeInfo} {zv : Value} {d : TypeDesc} (hT : P.underlying t = some (.slice e)) (hu : P.underlying u = some d) (hd : ∀ k, d ≠ .int k) (hi : P.info? e = some i) (hz : i.zero = some zv)
    (hzs : zv.cells.size = i.size) (hsz : 0 < i.size) (hby : 0 < i.bytes) {v xv : Value} {n m : Nat} {cs news : List Value} (hown : OwnRow w e i.size v n cs) (hlen : ∀ w, (Builtin.lenOf xv).run P w = .ok m w)
    (hsrc : ∀ w', w'.heap = w.heap → (Builtin.firstCells i.size m xv).run P w' = .ok news.toArray w') (h1 : ∀ u ∈ news, OneC u) (hnl : news.length = m * i.size) (hbytes : (n + m) * i.bytes ≤ 140737488355328) :
    ∃ v' w', (Builtin.append_ #[t, u] ty #[v, xv]).run P w = .ok v' w' ∧ OwnRow w' e i.size v' (n + m) (cs ++ news) ∧ But w w' (blkOf v') ∧ OneC v' ∧ (∀ b, blkOf v' = some b → b = w.heap.size ∨ blkOf v = some b) := by
  have hnm : n + m ≤ 140737488355328 := Nat.le_trans (Nat.le_mul_of_pos_right _ hby) hbytes
  have hz2 : (match d with | .int _ => true | _ => false) = false := by cases d <;> first | rfl | exact absurd rfl (hd _)
  have hlen' : (cs ++ news).length = (n + m) * i.size := by rw [List.length_append, hown.len, hnl, Nat.add_mul]
  have grow : ∀ (old : Nat) (hold : old < n + m), (hs : ∀ w', w'.heap = w.heap → (Builtin.firstCells i.size n v).run P w' = .ok cs.toArray w') → (hv : ∃ a, v = .slice a n old) →
      ∃ v' w', (Builtin.append_ #[t, u] ty #[v, xv]).run P w = .ok v' w' ∧ OwnRow w' e i.size v' (n + m) (cs ++ news) ∧ But w w' (blkOf v') ∧ OneC v' ∧ (∀ b, blkOf v' = some b → b = w.heap.size ∨ blkOf v = some b) := by
    intro old hold hs hv
    obtain ⟨a, rfl⟩ := hv
    have hn : ¬ n + m ≤ old := by omega
    have h63 : ¬ (9223372036854775807 < ((n : Int) + (m : Int))) := by omega
    have h48 : ¬ (281474976710656 < Builtin.nextslicecap (n + m) old * i.bytes) := by have := growslice_fits hold hbytes; omega
    have hb0 : ¬ i.bytes = 0 := by omega
    have hs1 := hs w.drew rfl
    have hx1 := hsrc w.drew rfl
    refine ⟨.slice (some ⟨w.heap.size, 0, none⟩) (n + m) (grownCap w (n + m) old e), w.drew.alloc (.cells (cs.toArray ++ news.toArray ++ Builtin.zeroCells zv.cells (grownCap w (n + m) old e - (n + m))) e), ?_, ⟨hlen', hsz, .inr ⟨w.heap.size, _, _, (0, 0), rfl, heap_alloc_new w.drew _, .inl (Nat.le_refl 0), grownCap_ge _ _ _ _, grownCap_le_maxLen w _ _ _ (by simp only [maxLen]; omega), ?_, ?_⟩⟩,
      ⟨rfl, rfl, rfl, by simp, fun k hk _ => heap_alloc_old w.drew _ k hk⟩, rfl, fun b hb => ?_⟩
    · simp only [Builtin.append_]
      simp [run_underlying hT, run_underlying hu, sizeOf, typeInfo, zeroValue, hi, hz, hlen, hn, h63, h48, hb0, Question.forced, hs1, hx1, newRow, grownCap, hz2]
      congr 2
      apply Array.ext'
      simp [List.append_assoc]
    · simp only [Array.size_append, List.size_toArray, size_zeroCells, hzs, hown.len, hnl, ← Nat.add_mul]
      congr 1
      have := grownCap_ge w (n + m) old e
      omega
    · simp only [Array.toList_append, List.append_assoc]
      rw [← List.append_assoc, ← hlen']
      exact List.take_left
    · cases hb; exact .inl rfl
  rcases id hown.row with ⟨rfl, rfl⟩ | ⟨b, cap, cur, fz, rfl, hb, hfz, hnc, hcm, hcs, htake⟩
  · obtain rfl : cs = [] := List.eq_nil_of_length_eq_zero (by simpa using hown.len)
    by_cases hm : m = 0
    · subst hm
      obtain rfl : news = [] := List.eq_nil_of_length_eq_zero (by simpa using hnl)
      refine ⟨.slice none 0 0, w, ?_, ⟨by simp, hsz, .inl ⟨rfl, rfl⟩⟩, But.refl _ _, rfl, by simp [blkOf]⟩
      have hx := hsrc w rfl
      simp only [Builtin.append_]
      simp [run_underlying hT, run_underlying hu, sizeOf, typeInfo, hi, hlen, hx, hz2]
    · exact grow 0 (by omega) (fun w' _ => by simp [Builtin.firstCells]) ⟨none, rfl⟩
  · by_cases hroom : n + m ≤ cap
    · have hfit : n * i.size + news.length ≤ cur.size := by rw [hnl, hcs, ← Nat.add_mul]; exact Nat.mul_le_mul_right _ hroom
      have hst := run_storeCells_row P b (n * i.size) e fz news 0 cur w hb (hfz.imp id And.left) (by simpa using hfit) h1
      have hx := hsrc w rfl
      simp only [Nat.add_zero] at hst
      refine ⟨.slice (some ⟨b, 0, none⟩) (n + m) cap, w.setRow b (cur.toList.take (n * i.size) ++ news ++ cur.toList.drop (n * i.size + news.length)).toArray, ?_, ⟨hlen', hsz, .inr ⟨b, cap, (cur.toList.take (n * i.size) ++ news ++ cur.toList.drop (n * i.size + news.length)).toArray, fz, rfl, setRow_heap w b cur _ e fz hb, ?_, hroom, hcm, ?_, ?_⟩⟩, but_setRow w b _, rfl, fun b' hb' => .inr hb'⟩
      · simp only [Builtin.append_]
        simp [run_underlying hT, run_underlying hu, sizeOf, typeInfo, hi, hlen, hroom, hx, hz2, Addr.add_lit, hst]
      · rw [List.size_toArray, splice_length _ _ _ (by simpa using hfit)]; simpa using hfz
      · rw [List.size_toArray, splice_length _ _ _ (by simpa using hfit)]; simpa using hcs
      · rw [List.toList_toArray, htake, ← hlen']
        exact List.take_left
    · refine grow cap (by omega) (fun w' hw' => ?_) ⟨_, rfl⟩
      have hc : ∀ j v, cs[j]? = some v → w'.cell? ((⟨b, 0, none⟩ : Addr).add j) = some v := by
        intro j v hj
        rw [Addr.add_lit, Nat.zero_add]
        have : w'.heap[b]? = some (.cells cur e fz) := by rw [hw']; exact hb
        rw [← htake, List.getElem?_take] at hj
        simp only [World.cell?, this]
        split at hj
        · simpa using hj
        · cases hj
      exact run_firstCells_some w' i.size n ⟨b, 0, none⟩ n cap cs hown.len hc
end run
end Go.Ev
