/- slices.SortFunc at timers, by their order. -/
import Derived.Test.YtcocakbopbehjaaClkLay
import Derived.Test.YtcocakbopbehjaaClkOrd
namespace Go.Proofs.Ytcocakbopbehjaa
open Go.RowKit Go.Sort Go.Shelf Go.Lib
def encT (t : Tm) : List Value := [.int .i64 t.1, .int .u64 (t.2 : Int)]
theorem cmpZ_neg (x y : Int) : cmpZ x y < 0 ↔ x < y := by
  unfold cmpZ
  split
  · simp; assumption
  · split <;> simp <;> omega
theorem cmpZ_zero (x y : Int) : cmpZ x y = 0 ↔ x = y := by
  unfold cmpZ
  split
  · simp; omega
  · split <;> simp <;> omega
theorem cmpT_lt (t u : Tm) : ltOf cmpT t u = tlt t u := by
  unfold ltOf cmpT orZ
  rw [Bool.eq_iff_iff, tlt_iff, decide_eq_true_eq]
  split
  · next h =>
    rw [cmpZ_zero] at h
    rw [cmpZ_neg]
    omega
  · next h =>
    rw [cmpZ_zero] at h
    rw [cmpZ_neg]
    omega
theorem tm_swo : SWO (ltOf cmpT) where
  irrefl x := by rw [cmpT_lt]; rw [Bool.eq_false_iff]; intro h; rw [tlt_iff] at h; omega
  trans x y z h1 h2 := by rw [cmpT_lt] at *; rw [tlt_iff] at *; omega
  ntrans x y z h1 h2 := by
    rw [cmpT_lt] at *
    have k1 : tle y x := h1
    have k2 : tle z y := h2
    exact tle_trans k2 k1
theorem flat_tm (ts : List Tm) : flatK encT 2 ts.toArray = (tcells ts).toArray := by
  apply Array.ext_getElem?
  intro j
  have hR : (tcells ts).toArray[j]? = (tcells ts)[j]? := by simp
  rw [hR]
  have hfs : (flatK encT 2 ts.toArray).size = ts.length * 2 := by simp
  have htl := tcells_len ts
  by_cases hj : j < ts.length * 2
  · obtain ⟨k, r, hr, rfl⟩ : ∃ k r, r < 2 ∧ j = k * 2 + r := ⟨j / 2, j % 2, Nat.mod_lt _ (by omega), by omega⟩
    have hk : k < ts.length := by omega
    have h1 := getElem!_pos (flatK encT 2 ts.toArray) (k * 2 + r) (by omega)
    rw [get_flatK _ _ _ _ (by simpa using hj), show (k * 2 + r) / 2 = k by omega, show (k * 2 + r) % 2 = r by omega] at h1
    rw [Array.getElem?_eq_getElem (by omega), ← h1]
    obtain ⟨c0, c1⟩ := tcells_at ts k ts[k] (List.getElem?_eq_getElem hk)
    have e1 : ts.toArray[k]! = ts[k] := by rw [getElem!_pos _ _ (by simpa using hk)]; simp
    rw [e1]
    have hr2 : r = 0 ∨ r = 1 := by omega
    rcases hr2 with rfl | rfl
    · rw [Nat.add_zero, c0]; rfl
    · rw [c1]; rfl
  · rw [Array.getElem?_eq_none (by omega), List.getElem?_eq_none (by omega)]
theorem heap_sortedK {w : World} {g n : Nat} {os : Array Obj} {cur : Array Value} {e : TypeId} {fr : Nat × Nat} (d : Array Value) (hb : w.heap[g]? = some (.cells cur e fr)) :
    (grow (putRow id (Sort.ahead w n) g 0 d) os).heap[g]? = some (.cells (putCells id 0 d cur) e fr) := by
  have hg : g < w.heap.size := (Array.getElem?_eq_some_iff.1 hb).1
  rw [heap_grow_old _ _ (by simpa using hg)]
  simp [putRow, mapBlock, Sort.ahead, Array.getElem?_modify, hb, onCells]
theorem grown_sortedK {w : World} {g n : Nat} {os : Array Obj} (d : Array Value) : w.grownBy (grow (putRow id (Sort.ahead w n) g 0 d) os) (some g) := by
  refine ⟨rfl, rfl, rfl, by simp, fun k hk hne => ?_⟩
  rw [heap_grow_old _ _ (by simpa using hk)]
  have : g ≠ k := fun e => hne (by rw [e])
  simp [putRow, mapBlock, Sort.ahead, Array.getElem?_modify, this]
theorem take_putCellsK (cur : Array Value) (ts : List Value) (h : ts.length ≤ cur.size) : (putCells id 0 ts.toArray cur).toList.take ts.length = ts := by
  apply List.ext_getElem?
  intro j
  by_cases hj : j < ts.length
  · rw [List.getElem?_take_of_lt hj, Array.getElem?_toList]
    simp [putCells, hj, show j < cur.size by omega]
  · rw [List.getElem?_take_eq_none (by omega), List.getElem?_eq_none (by omega)]
theorem merge_tsort (ts : List Tm) : (ts.mergeSort fun x y => !(ltOf cmpT) y x) = tsort ts := by
  refine tsort_of (List.mergeSort_perm _ _) ?_
  have := List.pairwise_mergeSort (le := fun x y => !(ltOf cmpT) y x) (fun a b c h1 h2 => ?_) (fun a b => ?_) ts
  · refine this.imp fun {a b} h => ?_
    rw [cmpT_lt] at h
    show tlt b a = false
    simpa using h
  · rw [cmpT_lt] at *
    have k1 : tle a b := by unfold tle; simpa using h1
    have k2 : tle b c := by unfold tle; simpa using h2
    have := tle_trans k1 k2
    unfold tle at this
    rw [this]; rfl
  · rw [cmpT_lt, cmpT_lt]
    rcases h : tlt b a with _ | _
    · simp
    · have h2 := tle_of_lt h
      unfold tle at h2
      rw [h2]; simp
set_option maxRecDepth 100000 in
/-- the row holds its timers in their order -/
theorem csort_any (base n c : Nat) (A : Option Addr) (ts : List Tm) (w : World) (hown : w.ownsRow base 62 2 (.slice A n c) n (tcells ts)) (hn : n ≤ 1000) :
    Calls Try.prog 29 #[.slice A n c, .func (.func 30) #[] #[]] w fun e w' => e = .returned (.tuple #[]) ∧ w'.ownsRow base 62 2 (.slice A n c) n (tcells (tsort ts)) ∧ w.grownBy w' (Value.slice A n c).ownBlock := by
  have htl : ts.length = n := by have := hown.1; rw [tcells_len] at this; omega
  rcases hown.2 with ⟨hv, h0⟩ | ⟨g, cap, cur, hv, hbase, hh, hnc, hcm, hcs, htake⟩
  · injection hv with e1 e2 e3
    subst e1 e2 e3
    have : ts = [] := List.length_eq_zero_iff.1 htl
    subst this
    have hN := AnyF.slices_SortFunc_none { sortTm with } none 0 (.func (.func 30) #[] #[]) w
    change Calls Try.prog 29 _ _ _ at hN
    refine hN.mono ?_
    rintro e w' ⟨rfl, rfl⟩
    exact ⟨rfl, hown, World.grownBy.refl _ _⟩
  · injection hv with e1 e2 e3
    subst e1 e3 htl
    have eg : ∀ args w, (callFunc 30 args).run Try.prog w = .ok (.enter 30 args) w := enters_of Try.func30 (by kernel_rfl) rfl
    have hg : g < w.heap.size := (Array.getElem?_eq_some_iff.1 hh).1
    have hcsz : ts.length * 2 ≤ cur.size := by
      have := congrArg List.length htake
      rw [List.length_take, Array.length_toList, tcells_len] at this
      omega
    have hH : HoldsK encT 2 w g 0 ts.toArray := by
      intro j hj
      rw [size_flatK] at hj
      have hj' : j < (tcells ts).length := by rw [tcells_len]; simpa using hj
      rw [flat_tm, Nat.zero_add]
      refine ⟨?_, (own_here hown).2 j⟩
      have := hown.cells (g := g) rfl j _ (List.getElem?_eq_getElem hj')
      rw [addr0] at this
      rw [this, getElem!_pos _ _ (by simpa using hj')]
      simp
    have hC : CmpLays Try.prog 30 #[] encT 2 cmpT g 0 ts.toArray.size w := fun _ _ _ _ x y => order_any x y _
    have hS := AnyQ.slices_SortFunc_total sortTm 2 Try.isAgg62 Try.sizeOf62 encT (fun _ => rfl) (fun x v hv => by simp [encT] at hv; rcases hv with rfl | rfl <;> rfl) cmpT tm_swo 30 #[] g 0 c ts.toArray w eg hC hH hg (by simp; omega) (fun x y h1 h2 => by
      rw [cmpT_lt] at h1 h2
      exact tle_anti h2 h1)
    change Calls Try.prog 29 _ _ _ at hS
    have hsz : ts.toArray.size = ts.length := by simp
    rw [hsz] at hS
    refine hS.mono ?_
    rintro e w' ⟨rfl, n, os, rfl⟩
    have e1 : flatK encT 2 (ts.toArray.toList.mergeSort fun x y => !(ltOf cmpT) y x).toArray = (tcells (tsort ts)).toArray := by
      rw [flat_tm]
      have : ts.toArray.toList = ts := by simp
      rw [this, merge_tsort]
    refine ⟨rfl, ?_, grown_sortedK _⟩
    unfold sortWorldK putRowK
    rw [e1]
    have hl2 : (tcells (tsort ts)).length = ts.length * 2 := by rw [tcells_len, tsort_len]
    refine ⟨hl2, .inr ⟨g, c, _, rfl, hbase, heap_sortedK _ hh, hnc, hcm, by simp [putCells, hcs], ?_⟩⟩
    rw [← hl2]
    exact take_putCellsK cur _ (by omega)
end Go.Proofs.Ytcocakbopbehjaa
