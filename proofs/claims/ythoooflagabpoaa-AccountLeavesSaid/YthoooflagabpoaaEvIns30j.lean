/-
slices.Insert of one element: its entry.
-/
import Derived.Test.YthoooflagabpoaaEvIns30s
import Derived.Test.YthoooflagabpoaaEvIns30g
set_option linter.unusedVariables false
set_option linter.unusedSimpArgs false
namespace Go.Proofs.Ythoooflagabpoaa
open Go Go.Ev Go.RowKit Go.Lib
theorem ins_run (w : World) (v u : Value) (n i : Nat) (cs ns : List Value) (ho : OwnRow w 75 2 v n cs) (h1 : ∀ x ∈ cs, OneC x) (hu : OwnRow w 75 2 u 1 ns) (h1n : ∀ x ∈ ns, OneC x) (hap : ∀ b, blkOf v = some b → blkOf u ≠ some b) (hi : i ≤ n) (hbig : (n + 1) * 16 ≤ 140737488355328) :
    Calls Try.prog 34 #[v, .int .i64 i, u] w fun e w' => ∃ v', e = .returned v' ∧ OwnRow w' 75 2 v' (n + 1) (cs.take (i * 2) ++ ns ++ cs.drop (i * 2)) ∧ But w w' (blkOf v') ∧ OneC v' ∧ ∀ b, blkOf v' = some b → b = w.heap.size ∨ blkOf v = some b := by
  obtain ⟨i0, zv, hi0, hzs, hzb, hz0, hzc⟩ := info75
  rcases id hu.row with ⟨_, h⟩ | ⟨vb, vc, vcur, vfz, rfl, hvb, hvf, hvc, hvm, hvs, hvt⟩
  · omega
  have hns : ns.length = 2 := by simpa using hu.len
  by_cases hin : i = n
  · subst hin
    have hcl : cs.length = i * 2 := ho.len
    rw [List.take_of_length_le (by omega), List.drop_of_length_le (by omega), List.append_nil]
    have hfirst : ∀ w', w'.heap = w.heap → (Builtin.firstCells i0.size 1 (.slice (some ⟨vb, 0, none⟩) 1 vc)).run Try.prog w' = .ok ns.toArray w' := fun w' hw' => by
      rw [hzs]
      exact run_firstCells_some w' 2 1 ⟨vb, 0, none⟩ 1 vc ns (by omega) (fun j x hj => by
        rw [Addr.add_lit]
        have h2 : vcur[j]? = some x := by
          rw [← hvt, List.getElem?_take] at hj
          split at hj
          · simpa using hj
          · cases hj
        simp [World.cell?, hw', hvb, h2])
    have key : ∀ ty, ∃ v' w', (Builtin.append_ #[31, 31] ty #[v, .slice (some ⟨vb, 0, none⟩) 1 vc]).run Try.prog w = .ok v' w' ∧ OwnRow w' 75 i0.size v' (i + 1) (cs ++ ns) ∧ But w w' (blkOf v') ∧ OneC v' ∧ (∀ b, blkOf v' = some b → b = w.heap.size ∨ blkOf v = some b) := fun ty =>
      run_append_gen Try.prog (ty := ty) Try.underlying31 Try.underlying31 (fun k h => by cases h) hi0 hz0 (by rw [hzs, hzc]) (by omega) (by omega) (by rw [hzs]; exact ho) (fun w => by simp [Builtin.lenOf]) hfirst h1n (by omega) (by rw [hzb]; exact hbig)
    obtain ⟨v', w', hrun, hown, hbut, hone, hblk⟩ := key 31
    rw [hzs] at hown
    have hv : ∃ base c, v = .slice base i c := by
      rcases ho.row with ⟨rfl, rfl⟩ | ⟨b, cap, _, _, rfl, _⟩
      · exact ⟨none, 0, rfl⟩
      · exact ⟨_, _, rfl⟩
    obtain ⟨base, c, rfl⟩ := hv
    have hty : ∀ ty ty', Builtin.append_ #[31, 31] ty #[.slice base i c, .slice (some ⟨vb, 0, none⟩) 1 vc] = Builtin.append_ #[31, 31] ty' #[.slice base i c, .slice (some ⟨vb, 0, none⟩) 1 vc] := fun _ _ => rfl
    refine (ins_end w w' base i c vb vc v' hone (fun ty => by rw [hty ty 31]; exact hrun)).mono ?_
    rintro e w2 ⟨rfl, rfl⟩
    exact ⟨v', rfl, hown, hbut, hone, hblk⟩
  · have hlt : i < n := by omega
    rcases id ho.row with ⟨_, h⟩ | ⟨b, cap, cur, fz, rfl, hb, hf, hnc, hcm, hcs, htk⟩
    · omega
    have hne : vb ≠ b := fun e => hap b rfl (by rw [e]; rfl)
    subst htk
    have hcm' : cap ≤ 9223372036854775807 := by simpa [maxLen] using hcm
    by_cases hroom : n + 1 ≤ cap
    · refine (ins_shift w n i hlt b cap cur fz hb (by simpa using hf) hcs hcm' h1 vb vc vcur vfz hvb (by simpa using hvf) hvs hvc hne ns (by simpa using hvt) h1n hroom).mono ?_
      rintro e w2 ⟨rfl, cur2, rfl, hl2, ht2⟩
      refine ⟨_, rfl, ⟨by simp [hns]; omega, by omega, .inr ⟨b, cap, cur2.toArray, fz, rfl, setRow_heap w.drew b cur _ 75 fz hb, ?_, hroom, hcm, by simp [hl2, hcs], ht2⟩⟩, ?_, rfl, fun b' hb' => .inr hb'⟩
      · simpa [hl2] using hf
      · have := but_setRow w.drew b cur2.toArray
        exact ⟨this.os, this.tape, this.output, this.size, this.block⟩
    · refine (ins_grow w n i hlt b cap cur fz hb hcs hcm' h1 hnc vb vc vcur vfz hvb hvs hvc hne ns (by simpa using hvt) h1n (by omega) hbig).mono ?_
      rintro e w2 ⟨G, rfl, hown, hbut⟩
      exact ⟨_, rfl, hown, hbut, rfl, fun b' hb' => .inl (by cases hb'; rfl)⟩
theorem cond_none {A : Type} {b : Bool} {x y : A} (h : cond b (some x) none = some y) : b = true ∧ x = y := by
  cases b
  · cases h
  · exact ⟨rfl, Option.some.inj h⟩
/-- slices.Insert of one element. -/
noncomputable def f34 (a1 : Int) (a2 : List PD) (a3 : List PD) : Option (Unit × (Unit × Unit × List PD)) :=
  cond (decide (0 ≤ a1) && (decide (a1 ≤ ((a2.length : Nat) : Int)) && (decide (a3.length = 1) && decide ((a2.length + 1) * 16 ≤ 140737488355328)))) (
    some ((), (), (), a2.take a1.toNat ++ a3 ++ a2.drop a1.toNat)) none
noncomputable def f34W (x : TyA (.cons (.ref 0) (.cons (.int .i64) (.ref 1))) [(.arrS 2 75 2), (.arrS 2 75 2)]) : Option (TyR (.ref 2) [.dead, .dead, (.arrS 2 75 2)]) := f34 x.1.2.1 x.2.1 x.2.2
theorem f34_ok : EntOK Try.prog 34 (ent (.cons (.ref 0) (.cons (.int .i64) (.ref 1))) [(.arrS 2 75 2), (.arrS 2 75 2)] (.ref 2) [.dead, .dead, (.arrS 2 75 2)] f34W) :=
  ent_of fun (x : ((Unit × Int × Unit) × (List PD × List PD))) y hy => by
    obtain ⟨⟨_, z, _⟩, xs, ys⟩ := x
    unfold f34W f34 at hy
    simp only at hy
    obtain ⟨hc, rfl⟩ := cond_none hy
    simp only [Bool.and_eq_true, decide_eq_true_eq] at hc
    obtain ⟨hz0, hzn, hy1, hbig⟩ := hc
    obtain ⟨i, rfl⟩ := Int.eq_ofNat_of_zero_le hz0
    have hin : i ≤ xs.length := by omega
    intro w F0 γ0 vs hl hr hv
    have hv0 : V _ γ0 F0 w (.ref 0) (vs.getD 0 undef) := hv 0 (show 0 < 3 by decide)
    have hv1 : V _ γ0 F0 w (.pd (.int .i64 i)) (vs.getD 1 undef) := hv 1 (show 1 < 3 by decide)
    have hv2 : V _ γ0 F0 w (.ref 1) (vs.getD 2 undef) := hv 2 (show 2 < 3 by decide)
    have hl3 : vs.length = 3 := hl
    obtain ⟨hN0, e0, one0⟩ := hv0.inv_ref
    obtain ⟨hN1, e2, one1⟩ := hv2.inv_ref
    have e1 := hv1.inv_pd.inv_int
    have hvs : vs = [γ0 0, .int .i64 i, γ0 1] := by
      match vs, hl3 with
      | [a, b, c], _ =>
        simp only [List.getD_cons_zero, List.getD_cons_succ] at e0 e1 e2
        rw [e0, e1, e2]
    subst hvs
    obtain ⟨n, cs, hrow0, hown0⟩ : ObR _ γ0 F0 w (γ0 0) (.arr 2 75 (.sl 2 xs)) := hr.obs 0 _ rfl
    obtain ⟨m, ns, hrow1, hown1⟩ : ObR _ γ0 F0 w (γ0 1) (.arr 2 75 (.sl 2 ys)) := hr.obs 1 _ rfl
    obtain rfl : xs.length = n := hrow0.unique rfl
    obtain rfl : ys.length = m := hrow1.unique rfl
    rw [hy1] at hown1
    have hap : ∀ b, blkOf (γ0 0) = some b → blkOf (γ0 1) ≠ some b := fun b hb e => by
      have := (hr.apart 0 _ rfl rfl b hb).2.2 1 _ rfl rfl e
      omega
    have hcall := ins_run w (γ0 0) (γ0 1) xs.length i cs ns hown0 hrow0.one hown1 hrow1.one hap hin hbig
    refine .inl ⟨by simp [callFunc, Try.func34]; rfl, hcall.mono ?_⟩
    rintro e w' ⟨v', rfl, hown', hbut, hone, hblk⟩
    have hk := hr.kill 2 0 hN0
    have hk2 := hk.trans (hk.rel.kill 2 1 hN1)
    have hrow3 := RowR_insert hrow0 hrow1 hin
    rw [hy1] at hrow3
    obtain ⟨N', γ', hg, hv'⟩ := hk2.rel.newRow 2 (show ¬ 2 < 2 by omega) 2 75 _ _ _ v' hbut hone hrow3 hown' fun b hb => by
      rcases hblk b hb with hb' | hb'
      · exact hk2.rel.freeNew 2 b hb'
      · obtain ⟨h2, h3, h4⟩ := hr.apart 0 _ rfl rfl b hb'
        refine ⟨h2, h3, fun o' ob' hne hH' hw hb2 => ?_⟩
        by_cases e1 : o' = 1
        · subst e1; rw [upd_same] at hH'; cases hH'; cases hw
        rw [upd_other _ _ e1] at hH'
        by_cases e0 : o' = 0
        · subst e0; rw [upd_same] at hH'; cases hH'; cases hw
        rw [upd_other _ _ e0] at hH'
        exact e0 (h4 o' ob' hH' hw hb2)
    have hgo := hk2.trans hg
    have hH : upd (upd (upd (fun j => (embH [(.arrS 2 75 2), (.arrS 2 75 2)] (xs, ys))[j]?) 0 (some .dead)) 1 (some .dead)) 2 (some (.arr 2 75 (.sl 2 (xs.take i ++ ys ++ xs.drop i)))) = fun j => (embH [.dead, .dead, (.arrS 2 75 2)] ((), (), xs.take i ++ ys ++ xs.drop i))[j]? := by
      funext j
      match j with
      | 0 => rfl
      | 1 => rfl
      | 2 => rfl
      | j + 3 => rfl
    refine ⟨v', rfl, N', γ', F0, ?_, ?_, ?_, hv'⟩
    · have := hgo.rel
      exact hH ▸ this
    · intro o ho
      exact hgo.ext.names o ho
    · intro o ho
      obtain ⟨ob, hob⟩ := hgo.rel.hasob o ho
      match o with
      | 0 => exact (show 0 < 3 by decide)
      | 1 => exact (show 1 < 3 by decide)
      | 2 => exact (show 2 < 3 by decide)
      | j + 3 => exact absurd hob (by show ¬ (none = some ob); simp)
end Go.Proofs.Ythoooflagabpoaa
