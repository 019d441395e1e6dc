/- Logs and what is done in a group: arguments opened. -/
import Derived.Test.YtbgdepaffgeinaaPKit
import Derived.Test.YtbgdepaffgeinaaElOps
import Derived.Deep.Grids
namespace Go.Proofs.Ytbgdepaffgeinaa
open Go.ChangeShapes Go.WideShapes Go.ChangeAt Go.RowKit Go.Deep
def LogsV (W : World) (v : Value) (n : Nat) : Prop := ∃ A c vs, v = .slice A n c ∧ n ≤ 9223372036854775807 ∧ LogsAt W A n c vs
def OpsV (W : World) (v : Value) (os : List (Int × Int)) : Prop := ∃ A c lo hi, v = .slice A os.length c ∧ Sl W lo hi 2 A os.length c (ocells os)
set_option maxRecDepth 100000 in
theorem u64s_trod {H : Type} {enc : TypeId × Value → H} {W : World} {base fuel : Nat} {spare : Nat → Bool} {held : Bool} {v : Value} {x : DataW H × List MemPlace} (hf : DataW.trod enc Try.prog W base spare held fuel 70 [v] = some x) :
    ∃ (A' : Option Addr) (n' c' lo hi : Nat) (xs : List Nat), v = .slice A' n' c' ∧ Sl W lo hi 1 A' n' c' (xs.map uv) := by
  rcases open_ints Try.underlying70 Try.underlying22 (by kernel_rfl) hf with ⟨hcs, _⟩ | ⟨x, n, c, zs, hcs, _, hl, hm, hz, _, hcell, hwz⟩
  · obtain rfl : v = .slice none 0 0 := by simpa using hcs
    exact ⟨none, 0, 0, 0, 0, [], rfl, Sl.nil_ _ _ _ _⟩
  · obtain rfl : v = .slice (some x) n c := by simpa using hcs
    have hlz : n ≤ zs.length := by rw [hz]; split <;> omega
    have hlen : ((zs.take n).map Int.toNat).length = n := by rw [List.length_map, List.length_take]; omega
    refine ⟨some x, n, c, 0, x.block + 1, (zs.take n).map Int.toNat, rfl, ⟨by rw [List.length_map, hlen, Nat.mul_one], hl, by simpa [maxLen] using hm, fun _ => ⟨x, rfl, Nat.zero_le _, Nat.lt_succ_self _, fun j u hu => ?_⟩⟩⟩
    rw [List.map_map, List.getElem?_map, List.getElem?_take] at hu
    split at hu
    · cases hj : zs[j]? with
      | none => rw [hj] at hu; cases hu
      | some z =>
        rw [hj] at hu
        have hu' : uv z.toNat = u := by simpa using hu
        have hjl := (List.getElem?_eq_some_iff.1 hj).1
        have hb := bounds_u64 (hwz z (List.mem_of_getElem? hj))
        rw [hcell j hjl, ← hu']
        have e : ((z.toNat : Nat) : Int) = z := by omega
        unfold uv
        rw [e]
        simp [List.getD, hj]
    · cases hu
set_option maxRecDepth 100000 in
theorem open_logs {H : Type} {enc : TypeId × Value → H} {W : World} {base : Nat} {v : Value} {d : DataW H} {p : List MemPlace} (hv : Value.okWide Try.prog W .any base 66 v)
    (h : DataW.Trod enc Try.prog W 0 (fun _ => true) true 66 v d p) : ∃ n, LogsV W v n := by
  obtain ⟨a0, n, c, rfl⟩ := okWide_slice Try.underlying66 hv
  obtain ⟨fuel, hf⟩ := h
  have hf' : DataW.trod enc Try.prog W 0 (fun _ => true) true fuel 66 [.slice a0 n c] = some (d, p) := by simpa [Value.cells] using hf
  rcases open_slice1 Try.underlying66 (by kernel_rfl) hf' with ⟨hcs, _⟩ | ⟨a, len, cap, m, q, V, D, Pl, hcs, _, hl, hm, hmm, _, hi⟩
  · simp at hcs
    obtain ⟨rfl, rfl, rfl⟩ := hcs
    exact ⟨0, none, 0, [], rfl, by omega, ⟨0, 0, Sl.nil_ _ _ _ _⟩, fun v hv => by cases hv⟩
  · simp at hcs
    obtain ⟨rfl, rfl, rfl⟩ := hcs
    have hlm : n ≤ m := by rw [hmm]; split <;> omega
    have hmx : c ≤ 9223372036854775807 := by simpa [maxLen] using hm
    refine ⟨n, some a, c, (List.range n).map V, rfl, by omega, ⟨0, a.block + 1, ⟨by simp, hl, hmx, fun _ => ⟨a, rfl, Nat.zero_le _, Nat.lt_succ_self _, fun j u hu => ?_⟩⟩⟩, fun v hv => ?_⟩
    · rw [List.getElem?_map] at hu
      obtain ⟨i, hi', rfl⟩ := Option.map_eq_some_iff.1 hu
      have hil := (List.getElem?_eq_some_iff.1 hi').1
      rw [List.getElem?_range (by simpa using hil)] at hi'
      injection hi' with hi'
      subst hi'
      exact (hi j (by simp at hil; omega)).1
    · obtain ⟨i, hil, rfl⟩ := List.mem_map.1 hv
      exact u64s_trod (hi i (by have := List.mem_range.1 hil; omega)).2
set_option maxRecDepth 100000 in
theorem open_ops {H : Type} {enc : TypeId × Value → H} {W : World} {base : Nat} {v : Value} {d : DataW H} {p : List MemPlace} (hv : Value.okWide Try.prog W .any base 67 v)
    (h : DataW.Trod enc Try.prog W 0 (fun _ => true) true 67 v d p) : ∃ os, OpsV W v os := by
  obtain ⟨a0, n, c, rfl⟩ := okWide_slice Try.underlying67 hv
  obtain ⟨fuel, hf⟩ := h
  have hf' : DataW.trod enc Try.prog W 0 (fun _ => true) true fuel 67 [.slice a0 n c] = some (d, p) := by simpa [Value.cells] using hf
  rcases open_slice_fields Try.underlying67 Try.underlying78 (by kernel_rfl) (by kernel_rfl) hf' with ⟨hcs, _⟩ | ⟨a, len, cap, m, hcs, hl, hm, hmm, hi⟩
  · simp at hcs
    obtain ⟨rfl, rfl, rfl⟩ := hcs
    exact ⟨[], none, 0, 0, 0, rfl, Sl.nil_ _ _ _ _⟩
  · simp at hcs
    obtain ⟨rfl, rfl, rfl⟩ := hcs
    have hlm : n ≤ m := by rw [hmm]; split <;> omega
    have hex : ∀ k, k ≤ n → ∃ es : List (Int × Int), es.length = k ∧ (∀ j u, (ocells es)[j]? = some u → W.cell? (a.add j) = some u) := by
      intro k
      induction k with
      | zero => exact fun _ => ⟨[], rfl, fun j u h => by simp [ocells] at h⟩
      | succ k ih =>
        intro hk
        obtain ⟨es, h1, h2⟩ := ih (by omega)
        obtain ⟨n', hn⟩ := hi k (by omega)
        obtain ⟨v0, y0, c0, t0⟩ := hn 0 _ rfl
        obtain ⟨v1, y1, c1, t1⟩ := hn 1 _ rfl
        obtain ⟨z0, hz0, _, hw0⟩ := DataW.trod_int Try.underlying3 t0
        obtain ⟨z1, hz1, _, hw1⟩ := DataW.trod_int Try.underlying3 t1
        obtain rfl : v0 = .int .i64 z0 := by simpa using hz0
        obtain rfl : v1 = .int .i64 z1 := by simpa using hz1
        refine ⟨es ++ [(z0, z1)], by simp [h1], fun j u hu => ?_⟩
        rw [ocells_append] at hu
        have hlen : (ocells es).length = k * 2 := by rw [ocells_len, h1]
        by_cases hj : j < k * 2
        · rw [List.getElem?_append_left (by omega)] at hu
          exact h2 j u hu
        · rw [List.getElem?_append_right (by omega), hlen] at hu
          obtain ⟨i, rfl⟩ : ∃ i, j = k * 2 + i := ⟨j - k * 2, by omega⟩
          rw [Nat.add_sub_cancel_left] at hu
          match i, hu with
          | 0, hu => simp [ocells] at hu; subst hu; exact c0
          | 1, hu => simp [ocells] at hu; subst hu; exact c1
          | i + 2, hu => simp [ocells] at hu
    obtain ⟨es, h1, h2⟩ := hex n (Nat.le_refl _)
    subst h1
    exact ⟨es, some a, c, 0, a.block + 1, rfl, ⟨ocells_len es, hl, by simpa [maxLen] using hm, fun _ => ⟨a, rfl, Nat.zero_le _, Nat.lt_succ_self _, h2⟩⟩⟩
end Go.Proofs.Ytbgdepaffgeinaa
