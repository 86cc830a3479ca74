/-
sort.Slice of an order that stands already: the shelf's summary as an entry. utf8.ValidString: the shelf's summary as an entry.
-/
import Derived.Test.YtijjelcejpikiaaGreatDoorEvShelf
import Derived.Test.YtijjelcejpikiaaGreatDoorEvPv15
import Derived.Test.YtijjelcejpikiaaGreatDoorEvShelf15
import Derived.Shelf.Lay
import Derived.Deep.QuietTactic
import Derived.Sort.LotA
import Derived.Shelf.Unicode.ValidAny
import Derived.WalkKit
set_option linter.unusedVariables false
namespace Go.Proofs.YtijjelcejpikiaaGreatDoor
open Go Go.Ev Go.Px Go.Shelf Go.RowKit Go.Lib Go.Sort
noncomputable def siT : TypeInfo := (Tryz.prog.info? 91).get (by kernel_rfl)
noncomputable def siE : TypeInfo := (Tryz.prog.info? 3).get (by kernel_rfl)
theorem siK (n : Nat) (h2 : 2 ≤ n) : Lib.swapperK n siE 2 = 5 := by
  have a : siE.hasPointers = false := by kernel_rfl
  have b : siE.bytes = 8 := by kernel_rfl
  have c : (n == 0) = false := by simp; omega
  have d : (n == 1) = false := by simp; omega
  simp [Lib.swapperK, a, b, c, d]
theorem insInner_self {α : Type} [Inhabited α] (lt : α → α → Bool) (d : Array α) (i : Nat) (h : ∀ j, j + 1 = i → lt d[j + 1]! d[j]! = false) : insInner lt 0 i d = d := by
  cases i with
  | zero => rfl
  | succ j => simp [insInner, h j rfl]
theorem insOuter_self {α : Type} [Inhabited α] (lt : α → α → Bool) (d : Array α) (n : Nat) (h : ∀ j, j + 1 < n → lt d[j + 1]! d[j]! = false) : ∀ k i, n - i = k → insOuter lt 0 n i d = d := by
  intro k
  induction k with
  | zero =>
    intro i hi
    unfold insOuter
    rw [if_neg (by omega)]
  | succ k ih =>
    intro i hi
    unfold insOuter
    rw [if_pos (by omega), insInner_self lt d i fun j hj => h j (by omega)]
    exact ih (i + 1) (by omega)
set_option maxHeartbeats 4000000 in
/-- The caller's closure. -/
theorem less_keys (blk off c Bs Bk size : Nat) (ka : Addr) (kl kc : Nat) (W : World) (G K : Nat → Int) (hs : W.cell? ⟨Bs, 0, none⟩ = some (.slice (some ⟨blk, off, none⟩) size c))
    (hk : W.cell? ⟨Bk, 0, none⟩ = some (.slice (some ka) kl kc))
    (hc : ∀ t, t < size → W.cell? ⟨blk, off + t, none⟩ = some (.int .i64 (G t))) (hg : ∀ t, t < size → 0 ≤ G t ∧ G t < kl) (hK : ∀ t : Nat, t < kl → W.cell? (ka.add t) = some (.int .u64 (K t))) (i j : Nat) (hi : i < size) (hj : j < size) :
    Calls Tryz.prog 71 #[.int .i64 i, .int .i64 j, .pointer (some ⟨Bk, 0, none⟩), .pointer (some ⟨Bs, 0, none⟩)] W fun e w' => e = .returned (.bool (decide (K (G i).toNat < K (G j).toNat))) ∧ ∃ q, w' = W.drewN q := by
  have ci := hc i hi
  have cj := hc j hj
  obtain ⟨gi0, gi1⟩ := hg i hi
  obtain ⟨gj0, gj1⟩ := hg j hj
  have ki := hK (G i).toNat (by omega)
  have kj := hK (G j).toNat (by omega)
  obtain ⟨gi, egi⟩ := Int.eq_ofNat_of_zero_le gi0
  obtain ⟨gj, egj⟩ := Int.eq_ofNat_of_zero_le gj0
  rw [egi] at ci gi1 ki ⊢
  rw [egj] at cj gj1 kj ⊢
  have gi2 : gi < kl := by omega
  have gj2 : gj < kl := by omega
  simp only [Int.toNat_natCast] at ki kj ⊢
  clear hc hg hK gi0 gj0
  go_enter Tryz.func71, Tryz.ntmps71
  go_wp2
  go_quiet (fail)
  go_wp2
  go_ret
  exact ⟨rfl, nq, rfl⟩
/-- How the keys compare. -/
def ltK (k : Nat) (K : Nat → Int) (x y : Fin (k + 1)) : Bool := decide (K x.val < K y.val)
def encK (k : Nat) (x : Fin (k + 1)) : Value := .int .i64 ((x.val : Nat) : Int)
theorem block_lt_of_cell {w : World} {a : Addr} {v : Value} (h : w.cell? a = some v) : a.block < w.heap.size := by
  rcases Nat.lt_or_ge a.block w.heap.size with h1 | h1
  · exact h1
  · simp [World.cell?, Array.getElem?_eq_none h1] at h
set_option maxHeartbeats 4000000 in
theorem sort_keys (w : World) (blk c Bs Bk : Nat) (kb ko : Nat) (k kc : Nat) (K : Nat → Int) (d : Array (Fin (k + 1))) (h2 : 2 ≤ d.size) (h12 : d.size ≤ 12)
    (hH : Holds (encK k) w blk 0 d) (hblk : blk < w.heap.size) (hs : w.cell? ⟨Bs, 0, none⟩ = some (.slice (some ⟨blk, 0, none⟩) d.size c)) (hBs : Bs ≠ blk)
    (hk : w.cell? ⟨Bk, 0, none⟩ = some (.slice (some ⟨kb, ko, none⟩) (k + 1) kc)) (hBk : Bk ≠ blk) (hK : ∀ t : Nat, t < k + 1 → w.cell? ⟨kb, ko + t, none⟩ = some (.int .u64 (K t))) (hka : kb ≠ blk)
    (hord : ∀ j, j + 1 < d.size → ltK k K d[j + 1]! d[j]! = false) :
    Calls Tryz.prog 70 #[.iface 91 (.slice (some ⟨blk, 0, none⟩) d.size c), .func (.func 71) #[] #[.pointer (some ⟨Bk, 0, none⟩), .pointer (some ⟨Bs, 0, none⟩)]] w fun e w' =>
      e = .returned (.tuple #[]) ∧ ∃ n os, w' = grow (Sort.ahead w n) os := by
  have hless : LessReads Tryz.prog 71 #[.pointer (some ⟨Bk, 0, none⟩), .pointer (some ⟨Bs, 0, none⟩)] (encK k) (ltK k K) blk 0 d.size w := by
    intro m os dk hsz i j hi hj
    have e : sortWorld (encK k) w blk 0 m dk os = putRow (encK k) (grow (Sort.ahead w m) os) blk 0 dk := by
      unfold sortWorld; rw [putRow_grow _ (Sort.ahead w m) _ blk 0 _ hblk]
    have hHg : Holds (encK k) (grow (Sort.ahead w m) os) blk 0 d := holds_grow _ _ _ blk 0 d hblk (holds_ahead _ _ _ _ _ _ hH)
    have oth : ∀ (a : Addr) v, w.cell? a = some v → a.block ≠ blk → (sortWorld (encK k) w blk 0 m dk os).cell? a = some v := fun a v ha hb => by
      rw [e, cell?_putRow_other _ _ blk 0 dk _ (Or.inl hb), cell?_grow _ _ _ (show a.block < (Sort.ahead w m).heap.size from block_lt_of_cell ha)]
      exact ha
    have hl := less_keys blk 0 c Bs Bk d.size ⟨kb, ko, none⟩ (k + 1) kc (sortWorld (encK k) w blk 0 m dk os) (fun t => ((dk[t]!.val : Nat) : Int)) K (oth _ _ hs hBs) (oth _ _ hk hBk)
      (fun t ht => by rw [e]; exact cell?_putRow _ _ blk 0 d dk hHg hsz t (by omega)) (fun t _ => ⟨by omega, by have := dk[t]!.isLt; omega⟩) (fun t ht => by rw [Addr.add_lit]; exact oth _ _ (hK t ht) hka) i j hi hj
    simpa [ltK] using hl
  have hS := Any.sort_Slice_small Tryz.laysGg6 91 3 siT siE (by kernel_rfl) (by kernel_rfl) (by kernel_rfl) (by kernel_rfl) 2 (fun _ => by kernel_rfl) (by kernel_rfl) (fun _ => by kernel_rfl) (encK k) (fun _ => rfl) (ltK k K) 71 _
    (enters_of Tryz.func71 (by kernel_rfl) rfl) blk 0 c d h2 h12 137 (by rw [siK _ h2]; kernel_rfl) true
    (fun args W => run_callFunc_extern Tryz.func137 (by kernel_rfl) (by kernel_rfl) (by kernel_rfl) (e := Extern.ReflectliteSwapper.swap true) (by kernel_rfl) args W) _ hless hH hblk
  refine hS.mono ?_
  rintro e w' ⟨rfl, n, os, rfl⟩
  refine ⟨rfl, n, os, ?_⟩
  have hself : Sort.insertionSort (ltK k K) d 0 d.size = d := insOuter_self (ltK k K) d d.size hord _ _ rfl
  rw [hself, putRow_self _ _ _ _ _ (holds_ahead _ _ _ _ _ _ hH)]
end Go.Proofs.YtijjelcejpikiaaGreatDoor
namespace Go.Proofs.YtijjelcejpikiaaGreatDoor
open Go Go.Ev Go.Px Go.Shelf Go.RowKit Go.Lib Go.Sort
theorem below_grow {w : World} {n : Nat} {os : Array Obj} : Below w.heap.size w (grow (Sort.ahead w n) os) :=
  ⟨rfl, rfl, rfl, by simp [grow, Sort.ahead], fun k hk => by simp [grow, Sort.ahead, Array.getElem?_append, hk]⟩
noncomputable def sort_Slice_P : Pt := (.cons (.ifc 91 (.ref 0)) (.clo 71 .nil (.cons (.ptr 1 0) (.ptr 2 0))))
noncomputable def sort_Slice_H : List Po := [(.arrN 1 3 .i64), (.cells (.nums .u64)), (.cells (.ref 0))]
noncomputable def sort_Slice_R : Pt := (.tup .nil)
noncomputable def sort_Slice_G : List Po := [(.arrN 1 3 .i64), (.cells (.nums .u64)), (.cells (.ref 0))]
noncomputable def sort_Slice_W (x : (Unit × (Unit × (Unit × Unit))) × (List Int × List Int × Unit)) : Option (Unit × (List Int × List Int × Unit)) := sort_Slice x.2.1 x.2.2.1
theorem cond_none' {A : Type} {b : Bool} {x y : A} (h : cond b (some x) none = some y) : b = true ∧ x = y := by
  cases b
  · cases h
  · exact ⟨rfl, Option.some.inj h⟩
theorem sort_Slice_ok : EntOK Tryz.prog 70 (ent sort_Slice_P sort_Slice_H sort_Slice_R sort_Slice_G sort_Slice_W) := ent_of fun (x : (Unit × (Unit × (Unit × Unit))) × (List Int × List Int × Unit)) y hy => by
  obtain ⟨⟨_, _, _, _⟩, order, keys, _⟩ := x
  unfold sort_Slice_W sort_Slice at hy
  obtain ⟨hc, rfl⟩ := cond_none' hy
  simp only [Bool.and_eq_true, decide_eq_true_eq, List.all_eq_true, List.mem_range, Bool.not_eq_true', decide_eq_false_iff_not] at hc
  obtain ⟨h2, h12, hrng, hord⟩ := hc
  intro w F0 γ0 vs hl hr hv
  have hv0 : V _ γ0 F0 w (.ifc 91 [.ref 0]) (vs.getD 0 undef) := hv 0 (show 0 < 2 by decide)
  have hv1 : V _ γ0 F0 w (.clo 71 [] [.ptr 1 0, .ptr 2 0]) (vs.getD 1 undef) := hv 1 (show 1 < 2 by decide)
  have hl : vs.length = 2 := hl
  have o0 : ObR _ γ0 F0 w (γ0 0) (.arr 1 3 (.nums .i64 order)) := hr.obs 0 _ rfl
  have o1 : ObR _ γ0 F0 w (γ0 1) (.cells [.pd (.nums .u64 keys)]) := hr.obs 1 _ rfl
  have o2 : ObR _ γ0 F0 w (γ0 2) (.cells [.ref 0]) := hr.obs 2 _ rfl
  have a0 := hr.apart 0 (.arr 1 3 (.nums .i64 order)) rfl rfl
  match vs, hl with
  | [v0, v1], _ =>
  obtain ⟨_, u0, he, rfl0, hu0⟩ := hv0.inv_ifc
  cases he
  obtain ⟨_, e0, _⟩ := hu0.inv_ref
  obtain ⟨vf, vc, rfl1, hf0, hc0, _, hc2⟩ := hv1.inv_clo
  have p1 := (hc2 0 (by decide)).inv_ptr
  have p2 := (hc2 1 (by decide)).inv_ptr
  obtain ⟨b1, _, g1, q1⟩ := p1
  obtain ⟨b2, _, g2, q2⟩ := p2
  obtain ⟨n, cs, ⟨_, hn, hcs⟩, hown⟩ := o0
  obtain ⟨b1', cs1, E1, g1', hb1, hs1, _, hx1⟩ := o1
  obtain ⟨b2', cs2, E2, g2', hb2, hs2, _, hx2⟩ := o2
  rw [g1] at g1'
  cases g1'
  rw [g2] at g2'
  cases g2'
  rcases hown.row with ⟨_, h0⟩ | ⟨blk, cap, cur, fz, eg0, hbk, hfz, hnc, hcm, hsz, htk⟩
  · omega
  have ek := (hx1 0 (by simp)).inv_pd
  have er := (hx2 0 (by simp)).inv_ref
  have hkl : 0 < keys.length := by
    have := hrng (order[0]'(by omega)) (List.getElem_mem _)
    omega
  rcases ek.inv_nums with ⟨h0, _⟩ | ⟨ka, kc, ekv, _, hkk⟩
  · rw [h0] at hkl; cases hkl
  obtain ⟨hks, hkF, hkc⟩ := hkk hkl
  obtain ⟨k, hk⟩ : ∃ k, keys.length = k + 1 := ⟨keys.length - 1, by omega⟩
  obtain ⟨kb, ko, ksp⟩ := ka
  cases hks
  have hne1 : b1 ≠ blk := fun e => by
    subst e
    have := (a0 b1 (by rw [eg0]; rfl)).2.2 1 (.cells [.pd (.nums .u64 keys)]) rfl rfl (by rw [g1]; rfl)
    cases this
  have hne2 : b2 ≠ blk := fun e => by
    subst e
    have := (a0 b2 (by rw [eg0]; rfl)).2.2 2 (.cells [.ref 0]) rfl rfl (by rw [g2]; rfl)
    cases this
  have hneF : kb ≠ blk := fun e => by
    subst e
    exact (a0 kb (by rw [eg0]; rfl)).1 hkF
  have hkk' : ∀ j : Nat, j < keys.length → w.cell? ⟨kb, ko + j, none⟩ = some (.int .u64 (keys.getD j 0)) := fun j hj => hkc j _ (by simp [hj])
  have hcur : ∀ j : Nat, j < order.length → w.cell? ⟨blk, j, none⟩ = some (.int .i64 (order.getD j 0)) := fun j hj => by
    have h3 : cur[j]? = some (.int .i64 (order.getD j 0)) := by
      have h4 : (cur.toList.take (n * 1))[j]? = (order.map (Value.int .i64))[j]? := by rw [htk, hcs]
      rw [List.getElem?_take, if_pos (by omega)] at h4
      rw [← Array.getElem?_toList, h4]
      simp [hj]
    simp [World.cell?, hbk, h3]
  have hfrz : ∀ j : Nat, j < order.length → w.frozen? ⟨blk, j, none⟩ = false := fun j hj => by
    simp only [World.frozen?, hbk]
    have : n ≤ cur.size := by omega
    rcases hfz with h | ⟨h, _⟩ <;> simp <;> omega
  have hrj : ∀ j : Nat, j < order.length → 0 ≤ order.getD j 0 ∧ (order.getD j 0).toNat < k + 1 := fun j hj => by
    have h5 := hrng (order[j]'hj) (List.getElem_mem _)
    have h6 : order.getD j 0 = order[j]'hj := by simp [List.getD, hj]
    rw [h6]
    omega
  have hd : (order.map fun i => (Fin.ofNat (k + 1) i.toNat : Fin (k + 1))).toArray.size = order.length := by simp
  have hdj : ∀ j : Nat, j < order.length → ((order.map fun i => (Fin.ofNat (k + 1) i.toNat : Fin (k + 1))).toArray[j]!).val = (order.getD j 0).toNat := fun j hj => by
    have h7 := (hrj j hj).2
    rw [getElem!_pos _ j (by simpa using hj)]
    have h6 : order.getD j 0 = order[j]'hj := by simp [List.getD, hj]
    rw [h6] at h7 ⊢
    simp only [List.getElem_toArray, List.getElem_map, Fin.ofNat]
    exact Nat.mod_eq_of_lt h7
  have hrun := sort_keys w blk cap b2 b1 kb ko k kc (fun t => keys.getD t 0) (order.map fun i => (Fin.ofNat (k + 1) i.toNat : Fin (k + 1))).toArray (by rw [hd]; exact h2) (by rw [hd]; exact h12)
    (fun j hj => by
      rw [hd] at hj
      have h8 := hdj j hj
      refine ⟨?_, by rw [Nat.zero_add]; exact hfrz j hj⟩
      rw [Nat.zero_add, hcur j hj]
      unfold encK
      rw [h8, Int.toNat_of_nonneg (hrj j hj).1]) (Array.getElem?_eq_some_iff.1 hbk).1
    (by
      rw [hd, ← hn]
      have : w.cell? ⟨b2, 0, none⟩ = cs2[0]? := by simp [World.cell?, hb2]
      rw [this]
      have h9 := er.2.1
      rw [Array.getD_eq_getD_getElem?] at h9
      have hs2' : cs2.size = 1 := hs2
      rw [Array.getElem?_eq_getElem (by omega)] at h9 ⊢
      simp only [Option.getD_some] at h9
      rw [h9, eg0]) hne2
    (by
      have : w.cell? ⟨b1, 0, none⟩ = cs1[0]? := by simp [World.cell?, hb1]
      rw [this]
      have hs1' : cs1.size = 1 := hs1
      have h9 := ekv
      rw [Array.getD_eq_getD_getElem?] at h9
      rw [Array.getElem?_eq_getElem (by omega)] at h9 ⊢
      simp only [Option.getD_some] at h9
      rw [h9, hk]) hne1 (fun t ht => hkk' t (by omega)) hneF
    (fun j hj => by
      rw [hd] at hj
      have h10 := hord j (by omega)
      unfold ltK
      rw [hdj (j + 1) hj, hdj j (by omega)]
      exact decide_eq_false h10)
  rw [hd] at hrun
  refine .inl ⟨?_, ?_⟩
  · have hn' : Tryz.f70.name ≠ "runtime.NumGoroutine" := by decide
    obtain ⟨c, hc'⟩ := Option.isSome_iff_exists.1 (show Tryz.f70.body.isSome = true by kernel_rfl)
    simp [callFunc, Tryz.func70, hn', hc']
  have ev : [v0, v1].toArray = #[.iface 91 (.slice (some ⟨blk, 0, none⟩) order.length cap), .func (.func 71) #[] #[.pointer (some ⟨b1, 0, none⟩), .pointer (some ⟨b2, 0, none⟩)]] := by
    have hf : vf = #[] := Array.eq_empty_of_size_eq_zero hf0
    have hcc : vc = #[.pointer (some ⟨b1, 0, none⟩), .pointer (some ⟨b2, 0, none⟩)] := by
      match vc, hc0, q1, q2 with
      | ⟨[x, y]⟩, _, q1, q2 =>
        have q1 : x = _ := q1
        have q2 : y = _ := q2
        rw [q1, q2]
    have hu : u0 = .slice (some ⟨blk, 0, none⟩) order.length cap := by rw [e0, eg0, hn]
    have h1 : v0 = _ := rfl0
    have h3 : v1 = _ := rfl1
    rw [h1, h3, hu, hf, hcc]
  rw [ev]
  refine hrun.mono ?_
  rintro e w' ⟨rfl, nn, os, rfl⟩
  refine ⟨_, rfl, (· < 3), γ0, F0, rel_below hr below_grow, fun o ho => ⟨ho, rfl⟩, fun o ho => ho, .tup [] #[] rfl fun i h => by cases h⟩
noncomputable def utf8_ValidString_P : Pt := .str
noncomputable def utf8_ValidString_H : List Po := []
noncomputable def utf8_ValidString_R : Pt := .bool
noncomputable def utf8_ValidString_G : List Po := []
noncomputable def utf8_ValidString_W (x : ByteArray) : Option Bool := utf8_ValidString x
theorem tabs_of_glob {F0 : Nat → Prop} {w : World} (h : GlobOk F0 w) : Lib.Utf8Tabs 0 1 w := by
  have c1 : ∀ (k : IntKind) (zs : List Int), (Value.agg (zs.map (Value.int k)).toArray).cells.toList = zs.map (Value.int k) := fun k zs => rfl
  refine ⟨fun c hc => ?_, fun i hi => ?_⟩
  · obtain ⟨u, hu, _, hcell⟩ := h 0 (.arr .u8 256 tabFirst) rfl
    obtain ⟨_, rfl⟩ := hu.inv_arr
    rw [c1] at hcell
    have := hcell c (.int .u8 (Lib.firstT c)) (by rw [tabFirst_eq]; simp [hc])
    simpa using this
  · obtain ⟨u, hu, _, hcell⟩ := h 1 (.arr .u8 32 tabAccept) rfl
    obtain ⟨_, rfl⟩ := hu.inv_arr
    rw [c1] at hcell
    constructor
    · have := hcell (2 * i) (.int .u8 (Lib.accLo i)) (by rw [tabAccept_eq]; simp [show 2 * i < 32 by omega])
      simpa using this
    · have := hcell (2 * i + 1) (.int .u8 (Lib.accHi i)) (by
        rw [tabAccept_eq]
        have e1 : (2 * i + 1) % 2 = 1 := by omega
        have e2 : (2 * i + 1) / 2 = i := by omega
        simp [show 2 * i + 1 < 32 by omega, e1, e2])
      simpa using this
theorem utf8_ValidString_ok : EntOK Tryz.prog 49 (ent utf8_ValidString_P utf8_ValidString_H utf8_ValidString_R utf8_ValidString_G utf8_ValidString_W) := ent_of fun (s : ByteArray) y hy => by
  unfold utf8_ValidString_W utf8_ValidString at hy
  obtain ⟨hc, rfl⟩ := cond_none' hy
  have hs : s.size ≤ 9223372036854775807 := of_decide_eq_true hc
  refine FnOK.of_below_glob fun w F0 γ0 vs hG hl hv => ?_
  have hv0 : V _ γ0 F0 w (.pd (.str s)) (vs.getD 0 undef) := hv 0 (show 0 < 1 by decide)
  have hl : vs.length = 1 := hl
  have e0 := hv0.inv_pd.inv_str
  match vs, hl with
  | [a], _ =>
    have e0 : a = .string s := e0
    subst e0
    refine ⟨?_, (Any.utf8_ValidString Tryz.lays196 s w hs (tabs_of_glob hG)).mono fun e w' ⟨he, hb⟩ => ⟨_, he, hb, .bool _⟩⟩
    have hn : Tryz.f49.name ≠ "runtime.NumGoroutine" := by decide
    obtain ⟨c, hc⟩ := Option.isSome_iff_exists.1 (show Tryz.f49.body.isSome = true by kernel_rfl)
    simp [callFunc, Tryz.func49, hn, hc]
end Go.Proofs.YtijjelcejpikiaaGreatDoor
