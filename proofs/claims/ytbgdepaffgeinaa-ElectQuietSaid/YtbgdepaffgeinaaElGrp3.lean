/- What is read of a group. -/
import Derived.Test.YtbgdepaffgeinaaElGrp2
namespace Go.Proofs.Ytbgdepaffgeinaa
open Go.RowKit
theorem mcells_at : ∀ (ms : List Ms) (k : Nat) (m : Ms) (j : Nat) (u : Value), ms[k]? = some m → m.cells[j]? = some u → (mcells ms)[k * 10 + j]? = some u
  | [], k, m, j, u, h, _ => by simp at h
  | x :: ms, 0, m, j, u, h, hu => by
    simp at h
    subst h
    have hj : j < x.cells.length := (List.getElem?_eq_some_iff.1 hu).1
    show (x.cells ++ mcells ms)[0 * 10 + j]? = some u
    rw [Nat.zero_mul, Nat.zero_add, List.getElem?_append_left hj]
    exact hu
  | x :: ms, k + 1, m, j, u, h, hu => by
    have := mcells_at ms k m j u (by simpa using h) hu
    show (x.cells ++ mcells ms)[(k + 1) * 10 + j]? = some u
    have hl : x.cells.length = 10 := rfl
    rw [List.getElem?_append_right (by rw [hl]; omega), hl, show (k + 1) * 10 + j - 10 = k * 10 + j by omega]
    exact this
/-- a message of a row: its ten cells -/
theorem Sl.msg {w : World} {lo hi n c k : Nat} {A : Option Addr} {ms : List Ms} (h : Sl w lo hi 10 A n c (mcells ms)) (hk : k < n) :
    ∃ ad m, A = some ad ∧ ms[k]? = some m ∧ w.cell? (ad.add (k * 10)) = some (.int .i64 m.kind) ∧ ∀ j u, m.cells[j]? = some u → w.cell? ((ad.add (k * 10)).add j) = some u := by
  obtain ⟨ad, e, _, _, hc⟩ := h.at_ (by omega)
  have hl : k < ms.length := by have := h.len; rw [mcells_len] at this; omega
  have hm := List.getElem?_eq_getElem hl
  refine ⟨ad, ms[k], e, hm, ?_, fun j u hu => ?_⟩
  · exact hc (k * 10) _ (mcells_at ms k _ 0 _ hm rfl)
  · rw [add_of_add]
    exact hc _ _ (mcells_at ms k _ j u hm hu)
section
variable {H : Nat} {w : World} {g : Nat} {r : GR} {xs : List GN} {G : GP}
/-- the pointer to one of the nodes -/
theorem GrpP.ptr (h : GrpP H w g r xs G) {i : Nat} {y : GN} (hi : xs[i]? = some y) : ∃ ad c, r.nv = .slice (some ad) xs.length c ∧ w.cell? (ad.add i) = some (.pointer (some ⟨y.b, 0, none⟩)) ∧ xs.length ≤ c ∧ c ≤ 9223372036854775807 := by
  obtain ⟨A, c, hv, hs⟩ := own_sl h.nodes
  obtain ⟨ad, u, rfl, hu, hc⟩ := hs.nth (k := i) (List.getElem?_eq_some_iff.1 hi).1
  rw [List.getElem?_map, hi] at hu
  have hu' : y.ptr = u := by simpa using hu
  exact ⟨ad, c, hv, by rw [hc, ← hu']; rfl, hs.cap, hs.max⟩
theorem GrpP.len (h : GrpP H w g r xs G) : xs.length = G.nodes.length := by rw [← h.is, List.length_map]
theorem GrpP.nodeAt (h : GrpP H w g r xs G) {i : Nat} {x : ND} (hi : G.nodes[i]? = some x) : ∃ y, xs[i]? = some y ∧ y.x = x := by
  rw [← h.is, List.getElem?_map] at hi
  obtain ⟨y, hy, e⟩ := Option.map_eq_some_iff.1 hi
  exact ⟨y, hy, e⟩
end
end Go.Proofs.Ytbgdepaffgeinaa
