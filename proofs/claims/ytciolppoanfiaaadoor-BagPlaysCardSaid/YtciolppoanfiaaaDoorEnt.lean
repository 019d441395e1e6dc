/- Entries of a log: cells in threes. -/
import Derived.Test.YtciolppoanfiaaaDoorBytesK
namespace Go.Proofs.YtciolppoanfiaaaDoor
open Go.RowKit

/-- an entry: its term, its kind, its bytes' slice, its bytes -/
structure Ent where
  t : Nat
  k : Int
  A : Option Addr
  c : Nat
  l : List UInt8
def Ent.v (e : Ent) : Value := .agg #[.int .u64 (e.t : Int), .int .i64 e.k, .slice e.A e.l.length e.c]
def Ent.cells (e : Ent) : List Value := [.int .u64 (e.t : Int), .int .i64 e.k, .slice e.A e.l.length e.c]
def ecells : List Ent → List Value
  | [] => []
  | e :: es => .int .u64 (e.t : Int) :: .int .i64 e.k :: .slice e.A e.l.length e.c :: ecells es
theorem ecells_len (es : List Ent) : (ecells es).length = es.length * 3 := by
  induction es with
  | nil => rfl
  | cons e es ih => simp only [ecells, List.length_cons, ih]; omega
theorem ecells_append (es fs : List Ent) : ecells (es ++ fs) = ecells es ++ ecells fs := by
  induction es with
  | nil => rfl
  | cons e es ih => simp only [ecells, List.cons_append, ih]
theorem ecells_drop (es : List Ent) (k : Nat) : ecells (es.drop k) = (ecells es).drop (k * 3) := by
  induction k generalizing es with
  | zero => simp
  | succ k ih =>
    cases es with
    | nil => simp [ecells]
    | cons e es =>
      rw [Nat.succ_mul]
      simp only [ecells, List.drop_succ_cons]
      exact ih es
theorem ecells_take (es : List Ent) (k : Nat) : ecells (es.take k) = (ecells es).take (k * 3) := by
  induction k generalizing es with
  | zero => simp [ecells]
  | succ k ih =>
    cases es with
    | nil => simp [ecells]
    | cons e es =>
      rw [Nat.succ_mul]
      simp only [ecells, List.take_succ_cons]
      rw [ih es]
theorem ecells_at (es : List Ent) (k : Nat) (e : Ent) (h : es[k]? = some e) : (ecells es)[k * 3]? = some (.int .u64 (e.t : Int)) ∧ (ecells es)[k * 3 + 1]? = some (.int .i64 e.k) ∧ (ecells es)[k * 3 + 2]? = some (.slice e.A e.l.length e.c) := by
  induction k generalizing es with
  | zero =>
    cases es with
    | nil => simp at h
    | cons x es =>
      simp at h
      subst h
      exact ⟨rfl, rfl, rfl⟩
  | succ k ih =>
    cases es with
    | nil => simp at h
    | cons x es =>
      have := ih es (by simpa using h)
      rw [Nat.succ_mul]
      simpa only [ecells, List.getElem?_cons_succ] using this
theorem add_off {w : World} {p : Addr} {u : Value} (h : w.cell? p = some u) (j : Nat) : p.add j = ⟨p.block, p.off + j, none⟩ := by
  have hs : p.spot = none := World.cell?_spot h
  obtain ⟨b, o, s⟩ := p
  simp only at hs
  subst hs
  unfold Addr.add
  split
  · next h => simp [h]
  · rfl
/-- a list's place: an element's three cells -/
theorem Sl.ent {w : World} {lo hi n c k : Nat} {A : Option Addr} {es : List Ent} (h : Sl w lo hi 3 A n c (ecells es)) (hk : k < n) :
    ∃ ad e, A = some ad ∧ es[k]? = some e ∧ w.cell? (ad.add (k * 3)) = some (.int .u64 (e.t : Int)) ∧ w.cell? ⟨(ad.add (k * 3)).block, (ad.add (k * 3)).off + 1, none⟩ = some (.int .i64 e.k) ∧ w.cell? ⟨(ad.add (k * 3)).block, (ad.add (k * 3)).off + 2, none⟩ = some (.slice e.A e.l.length e.c) := by
  obtain ⟨ad, e, _, _, hc⟩ := h.at_ (by omega)
  have hl : k < es.length := by have := h.len; rw [ecells_len] at this; omega
  obtain ⟨h0, h1, h2⟩ := ecells_at es k es[k] (List.getElem?_eq_getElem hl)
  have a0 := hc _ _ h0
  refine ⟨ad, es[k], e, List.getElem?_eq_getElem hl, a0, ?_, ?_⟩
  · rw [← add_off a0, add_of_add]; exact hc _ _ h1
  · rw [← add_off a0, add_of_add]; exact hc _ _ h2
def Ent.zero : Ent := ⟨0, 0, none, 0, []⟩
/-- the entry of a number, in a log of base b -/
def entAt (b : Nat) (es : List Ent) (i : Nat) : Ent := if b < i then (es[i - b - 1]?).getD Ent.zero else Ent.zero
def termAt (b bt : Nat) (es : List Ent) (i : Nat) : Nat := if i = b then bt else (entAt b es i).t
theorem entAt_in {b i : Nat} {es : List Ent} {e : Ent} (h : b < i) (he : es[i - b - 1]? = some e) : entAt b es i = e := by
  unfold entAt
  rw [if_pos h, he]; rfl
theorem entAt_out {b i : Nat} {es : List Ent} (h : ¬ (b < i ∧ i ≤ b + es.length)) : entAt b es i = Ent.zero := by
  unfold entAt
  by_cases h1 : b < i
  · rw [if_pos h1, List.getElem?_eq_none (by omega)]; rfl
  · rw [if_neg h1]
end Go.Proofs.YtciolppoanfiaaaDoor
