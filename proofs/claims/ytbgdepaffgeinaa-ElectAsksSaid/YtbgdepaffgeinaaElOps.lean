/- What is done in a group: a slice that came in. -/
import Derived.Test.YtbgdepaffgeinaaElBegun
namespace Go.Proofs.Ytbgdepaffgeinaa
open Go.RowKit
def ocells : List (Int × Int) → List Value
  | [] => []
  | e :: es => .int .i64 e.1 :: .int .i64 e.2 :: ocells es
theorem ocells_len (es : List (Int × Int)) : (ocells es).length = es.length * 2 := by
  induction es with
  | nil => rfl
  | cons e es ih => simp only [ocells, List.length_cons, ih]; omega
theorem ocells_append (es fs : List (Int × Int)) : ocells (es ++ fs) = ocells es ++ ocells fs := by
  induction es with
  | nil => rfl
  | cons e es ih => simp only [ocells, List.cons_append, ih]
theorem ocells_at (es : List (Int × Int)) (k : Nat) (e : Int × Int) (h : es[k]? = some e) : (ocells es)[k * 2]? = some (.int .i64 e.1) ∧ (ocells es)[k * 2 + 1]? = some (.int .i64 e.2) := by
  induction k generalizing es with
  | zero =>
    cases es with
    | nil => simp at h
    | cons x es => simp at h; subst h; simp [ocells]
  | succ k ih =>
    cases es with
    | nil => simp at h
    | cons x es =>
      have := ih es (by simpa using h)
      rw [Nat.succ_mul]
      simpa only [ocells, List.getElem?_cons_succ] using this
theorem Sl.opAt {w : World} {lo hi n c k : Nat} {A : Option Addr} {es : List (Int × Int)} (h : Sl w lo hi 2 A n c (ocells es)) (hk : k < n) :
    ∃ (ad : Addr) (e : Int × Int), A = some ad ∧ w.cell? (ad.add (k * 2)) = some (.int .i64 e.1) ∧ w.cell? ⟨(ad.add (k * 2)).block, (ad.add (k * 2)).off + 1, none⟩ = some (.int .i64 e.2) := by
  obtain ⟨ad, e, _, _, hc⟩ := h.at_ (by omega)
  have hl : k < es.length := by have := h.len; rw [ocells_len] at this; omega
  obtain ⟨h0, h1⟩ := ocells_at es k es[k] (List.getElem?_eq_getElem hl)
  have a0 := hc _ _ h0
  refine ⟨ad, es[k], e, a0, ?_⟩
  rw [← add_off a0, add_of_add]; exact hc _ _ h1
end Go.Proofs.Ytbgdepaffgeinaa
