/- Memory words for the walks: a slice that reads as a list; a block known whole; frames. -/
import Derived.WalkKit
import Derived.Deep.AppendLies
import Derived.Deep.Draws
import Derived.Lib.Hide
namespace Go.Proofs.Ytbgdepaffgeinaa
open Go.RowKit

theorem block_of_add (a : Addr) (n : Nat) : (a.add n).block = a.block := by unfold Addr.add; split <;> rfl
theorem add_of_add (a : Addr) (i j : Nat) : (a.add i).add j = a.add (i + j) := by
  unfold Addr.add
  by_cases hi : i = 0 <;> by_cases hj : j = 0 <;> simp [hi, hj, Nat.add_assoc]

/-- The slice value '.slice A n c' holds the cells xs ('size' cells an element), in a block from lo to below hi. -/
structure Sl (w : World) (lo hi size : Nat) (A : Option Addr) (n c : Nat) (xs : List Value) : Prop where
  len : xs.length = n * size
  cap : n ≤ c
  max : c ≤ 9223372036854775807
  at_ : 0 < n → ∃ ad, A = some ad ∧ lo ≤ ad.block ∧ ad.block < hi ∧ ∀ j u, xs[j]? = some u → w.cell? (ad.add j) = some u

section
variable {w w' : World} {lo hi lo' hi' size n c : Nat} {A : Option Addr} {xs : List Value}
theorem Sl.nil_ (w : World) (lo hi size : Nat) : Sl w lo hi size none 0 0 [] := ⟨by simp, by omega, by omega, fun h => absurd h (by omega)⟩
theorem Sl.keep (h : Sl w lo hi size A n c xs) (hk : ∀ p : Addr, lo ≤ p.block → p.block < hi → w'.cell? p = w.cell? p) : Sl w' lo hi size A n c xs :=
  ⟨h.len, h.cap, h.max, fun hn => by
    obtain ⟨ad, e, hl, hh, hc⟩ := h.at_ hn
    exact ⟨ad, e, hl, hh, fun j u hu => (hk _ (by rw [block_of_add]; exact hl) (by rw [block_of_add]; exact hh)).trans (hc j u hu)⟩⟩
theorem Sl.wide (h : Sl w lo hi size A n c xs) (hl : lo' ≤ lo) (hh : hi ≤ hi') : Sl w lo' hi' size A n c xs :=
  ⟨h.len, h.cap, h.max, fun hn => by
    obtain ⟨ad, e, h1, h2, hc⟩ := h.at_ hn
    exact ⟨ad, e, by omega, by omega, hc⟩⟩
theorem Sl.lt (h : Sl w lo hi size A n c xs) (hs : 0 < size) {ad : Addr} (hn : 0 < n) (e : A = some ad) : ad.block < w.heap.size := by
  obtain ⟨ad', e', _, _, hc⟩ := h.at_ hn
  rw [e] at e'
  injection e' with e'
  subst e'
  have hl : 0 < xs.length := by rw [h.len]; exact Nat.mul_pos hn hs
  have := World.block_lt_of_cell? w _ (hc 0 _ (List.getElem?_eq_getElem hl))
  rwa [block_of_add] at this
theorem Sl.now (h : Sl w lo hi size A n c xs) (hs : 0 < size) : Sl w lo w.heap.size size A n c xs :=
  ⟨h.len, h.cap, h.max, fun hn => by
    obtain ⟨ad, e, h1, h2, hc⟩ := h.at_ hn
    exact ⟨ad, e, h1, h.lt hs hn e, hc⟩⟩
theorem Sl.hold (h : Sl w lo hi size A n c xs) (hs : 0 < size) (hk : ∀ p : Addr, p.block < w.heap.size → lo ≤ p.block → p.block < hi → w'.cell? p = w.cell? p) : Sl w' lo hi size A n c xs :=
  ⟨h.len, h.cap, h.max, fun hn => by
    obtain ⟨ad, e, hl, hh, hc⟩ := h.at_ hn
    exact ⟨ad, e, hl, hh, fun j u hu => (hk _ (by rw [block_of_add]; exact h.lt hs hn e) (by rw [block_of_add]; exact hl) (by rw [block_of_add]; exact hh)).trans (hc j u hu)⟩⟩
theorem Sl.after (h : Sl w lo hi size A n c xs) (hs : 0 < size) (hb : Below w.heap.size w w') : Sl w' lo hi size A n c xs :=
  h.hold hs fun _ hp _ _ => hb.cell hp
theorem Sl.below {B : Nat} (h : Sl w lo hi size A n c xs) (hb : Below B w w') (hB : hi ≤ B) : Sl w' lo hi size A n c xs :=
  h.keep fun _ _ hp => hb.cell (by omega)
theorem Sl.drew (h : Sl w lo hi size A n c xs) : Sl w.drew lo hi size A n c xs := h.keep fun _ _ _ => rfl
theorem Sl.drewN (h : Sl w lo hi size A n c xs) (k : Nat) : Sl (w.drewN k) lo hi size A n c xs := h.keep fun _ _ _ => rfl
theorem Sl.alloc (h : Sl w lo hi size A n c xs) (hs : 0 < size) (o : Obj) : Sl (w.alloc o) lo hi size A n c xs :=
  h.hold hs fun p hp _ _ => World.cell?_alloc_lt w o p hp
theorem Sl.setCell (h : Sl w lo hi size A n c xs) {p : Addr} (hp : p.block < lo ∨ hi ≤ p.block) (u : Value) : Sl (w.setCell p u) lo hi size A n c xs :=
  h.keep fun q h1 h2 => World.cell?_setCell_other w p q u (fun e => by subst e; omega)
theorem Sl.grown {row : Option Nat} (h : Sl w lo hi size A n c xs) (hs : 0 < size) (hg : w.grownBy w' row) (hr : ∀ g, row = some g → g < lo ∨ hi ≤ g) : Sl w' lo hi size A n c xs :=
  h.hold hs fun p hp h1 h2 => World.cell?_of_block (hg.block p.block hp (fun e => by have := hr _ e.symm; omega))
theorem Sl.nilA (h : Sl w lo hi size none n c xs) : n = 0 ∧ xs = [] := by
  have hn : n = 0 := by
    rcases Nat.eq_zero_or_pos n with h0 | h0
    · exact h0
    · obtain ⟨ad, e, _⟩ := h.at_ h0
      cases e
  exact ⟨hn, List.eq_nil_of_length_eq_zero (by rw [h.len, hn, Nat.zero_mul])⟩
/-- a piece of it: from k on, m elements, in any capacity -/
theorem Sl.sub {A' : Option Addr} {k m c' : Nat} (h : Sl w lo hi size A n c xs) (hk : k + m ≤ n) (hm : m ≤ c') (hc : c' ≤ 9223372036854775807) (hA : 0 < m → A' = A.map (·.add (k * size))) :
    Sl w lo hi size A' m c' ((xs.drop (k * size)).take (m * size)) := by
  have hmul : k * size + m * size ≤ n * size := by rw [← Nat.add_mul]; exact Nat.mul_le_mul_right _ hk
  refine ⟨by rw [List.length_take, List.length_drop, h.len]; omega, hm, hc, fun hpos => ?_⟩
  obtain ⟨ad, e, hl, hh, hcell⟩ := h.at_ (by omega)
  subst e
  refine ⟨ad.add (k * size), hA hpos, by rw [block_of_add]; exact hl, by rw [block_of_add]; exact hh, fun j u hu => ?_⟩
  rw [add_of_add]
  rw [List.getElem?_take] at hu
  split at hu
  · exact hcell _ u (by rw [← hu, List.getElem?_drop])
  · cases hu
theorem Sl.nth {k : Nat} (h : Sl w lo hi 1 A n c xs) (hk : k < n) : ∃ ad u, A = some ad ∧ xs[k]? = some u ∧ w.cell? (ad.add k) = some u := by
  obtain ⟨ad, e, _, _, hc⟩ := h.at_ (by omega)
  have hl : k < xs.length := by have := h.len; omega
  exact ⟨ad, xs[k], e, List.getElem?_eq_getElem hl, hc k _ (List.getElem?_eq_getElem hl)⟩
end
end Go.Proofs.Ytbgdepaffgeinaa
