/- A slice of slices of bytes that came in reads as a list of lists of bytes. -/
import Derived.Test.YtciolppoanfiaaaDoorDoorKit
import Derived.Test.YtciolppoanfiaaaDoorWCheckBack
namespace Go.Proofs.YtciolppoanfiaaaDoor
open Go.ChangeShapes Go.WideShapes Go.ChangeAt Go.RowKit Go.Deep

theorem cellsBl : Tryd.prog.cellsOf 22 = 1 := by kernel_rfl
set_option maxRecDepth 100000 in
theorem rows_trod {H : Type} {enc : TypeId × Value → H} {W : World} {base fuel : Nat} {spare : Nat → Bool} {held : Bool} {v : Value} {x : DataW H × List MemPlace} (hf : DataW.trod enc Tryd.prog W base spare held fuel 34 [v] = some x) : ∃ ls, Bss W v ls := by
  rcases open_slice1 Tryd.underlying34 cellsBl hf with ⟨hcs, _⟩ | ⟨a, len, cap, m, n, V, D, Pl, hcs, hb, hl, hm, hmm, _, hcell⟩
  · obtain rfl : v = .slice none 0 0 := by simpa using hcs
    exact ⟨[], none, 0, [], 0, 0, rfl, Sl.nil_ _ _ _ _, rfl, fun i v l hv => by simp at hv⟩
  · obtain rfl : v = .slice (some a) len cap := by simpa using hcs
    have hlm : len ≤ m := by rw [hmm]; split <;> omega
    have hex : ∀ i, ∃ l, i < len → Bytes W (V i) l := by
      intro i
      by_cases hi : i < len
      · obtain ⟨l, h⟩ := bytes_trod (hcell i (by omega)).2
        exact ⟨l, fun _ => h⟩
      · exact ⟨[], fun h => absurd h hi⟩
    obtain ⟨f, hf⟩ := Classical.axiomOfChoice hex
    refine ⟨(List.range len).map f, some a, cap, (List.range len).map V, 0, a.block + 1, by simp, ?_, ?_⟩
    · refine ⟨by simp, by simpa using hl, by simpa [maxLen] using hm, fun _ => ⟨a, rfl, Nat.zero_le _, Nat.lt_succ_self _, fun j u hu => ?_⟩⟩
      rw [List.getElem?_map] at hu
      by_cases hj : j < len
      · rw [List.getElem?_range hj] at hu
        have hu' : V j = u := by simpa using hu
        rw [← hu']
        exact (hcell j (by omega)).1
      · rw [List.getElem?_eq_none (by simp; omega)] at hu
        cases hu
    · refine ⟨by simp, fun i y l hy hl => ?_⟩
      rw [List.getElem?_map] at hy hl
      by_cases hj : i < len
      · rw [List.getElem?_range hj] at hy hl
        have hy' : V i = y := by simpa using hy
        have hl' : f i = l := by simpa using hl
        subst hy' hl'
        obtain ⟨lo, hi, A, c, e, hs⟩ := hf i hj
        exact ⟨A, c, lo, hi, e, hs⟩
      · rw [List.getElem?_eq_none (by simp; omega)] at hy
        cases hy
set_option maxRecDepth 100000 in
theorem open_rows {H : Type} {enc : TypeId × Value → H} {W : World} {base : Nat} {v : Value} {d : DataW H} {p : List MemPlace} (hv : Value.okWide Tryd.prog W .any base 34 v)
    (h : DataW.Trod enc Tryd.prog W 0 (fun _ => true) true 34 v d p) : ∃ ls, Bss W v ls := by
  obtain ⟨a0, n, c, rfl⟩ := okWide_slice Tryd.underlying34 hv
  obtain ⟨fuel, hf⟩ := h
  exact rows_trod (by simpa [Value.cells] using hf)
end Go.Proofs.YtciolppoanfiaaaDoor
