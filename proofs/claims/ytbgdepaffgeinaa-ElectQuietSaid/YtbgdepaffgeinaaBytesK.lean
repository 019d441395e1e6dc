/- Slices that read as lists of bytes (the seat has no frames): the words of WFrame alone. -/
import Derived.Test.YtbgdepaffgeinaaBlk
import Derived.Laws.OwnMore
namespace Go.Proofs.Ytbgdepaffgeinaa
open Go.RowKit

/-- v is a slice of bytes that reads as l, in a block from lo to below hi. -/
def BytesIn (w : World) (lo hi : Nat) (v : Value) (l : List UInt8) : Prop := ∃ A c, v = .slice A l.length c ∧ Sl w lo hi 1 A l.length c (l.map bv)
/-- v is a slice of bytes that reads as l, wherever. -/
def Bytes (w : World) (v : Value) (l : List UInt8) : Prop := ∃ lo hi, BytesIn w lo hi v l
section
variable {w w' : World} {lo hi : Nat} {v : Value} {l : List UInt8}
theorem Sl.bytesIn {A : Option Addr} {n c : Nat} (h : Sl w lo hi 1 A n c (l.map bv)) : BytesIn w lo hi (.slice A n c) l := by
  have : n = l.length := by simpa using h.len.symm
  subst this
  exact ⟨A, c, rfl, h⟩
theorem Sl.bytes {A : Option Addr} {n c : Nat} (h : Sl w lo hi 1 A n c (l.map bv)) : Bytes w (.slice A n c) l := ⟨lo, hi, h.bytesIn⟩
theorem own_bytesIn {base n : Nat} {e : TypeId} (h : w.ownsRow base e 1 v n (l.map bv)) : BytesIn w base w.heap.size v l := by
  obtain ⟨A, c, rfl, hs⟩ := own_sl h
  exact hs.bytesIn
theorem own_bytes {base n : Nat} {e : TypeId} (h : w.ownsRow base e 1 v n (l.map bv)) : Bytes w v l := ⟨_, _, own_bytesIn h⟩
theorem BytesIn.bytes (h : BytesIn w lo hi v l) : Bytes w v l := ⟨lo, hi, h⟩
theorem BytesIn.wide {lo' hi' : Nat} (h : BytesIn w lo hi v l) (h1 : lo' ≤ lo) (h2 : hi ≤ hi') : BytesIn w lo' hi' v l := by
  obtain ⟨A, c, rfl, hs⟩ := h
  exact ⟨A, c, rfl, hs.wide h1 h2⟩
theorem BytesIn.after (h : BytesIn w lo hi v l) (hb : Below w.heap.size w w') : BytesIn w' lo hi v l := by
  obtain ⟨A, c, rfl, hs⟩ := h
  exact ⟨A, c, rfl, hs.after (by decide) hb⟩
theorem BytesIn.below {B : Nat} (h : BytesIn w lo hi v l) (hb : Below B w w') (hB : hi ≤ B) : BytesIn w' lo hi v l := by
  obtain ⟨A, c, rfl, hs⟩ := h
  exact ⟨A, c, rfl, hs.below hb hB⟩
theorem BytesIn.alloc (h : BytesIn w lo hi v l) (o : Obj) : BytesIn (w.alloc o) lo hi v l := by
  obtain ⟨A, c, rfl, hs⟩ := h
  exact ⟨A, c, rfl, hs.alloc (by decide) o⟩
theorem BytesIn.drewN (h : BytesIn w lo hi v l) (n : Nat) : BytesIn (w.drewN n) lo hi v l := by
  obtain ⟨A, c, rfl, hs⟩ := h
  exact ⟨A, c, rfl, hs.drewN n⟩
theorem BytesIn.setCell (h : BytesIn w lo hi v l) {p : Addr} (hp : p.block < lo ∨ hi ≤ p.block) (u : Value) : BytesIn (w.setCell p u) lo hi v l := by
  obtain ⟨A, c, rfl, hs⟩ := h
  exact ⟨A, c, rfl, hs.setCell hp u⟩
theorem BytesIn.grown {row : Option Nat} (h : BytesIn w lo hi v l) (hg : w.grownBy w' row) (hr : ∀ g, row = some g → g < lo ∨ hi ≤ g) : BytesIn w' lo hi v l := by
  obtain ⟨A, c, rfl, hs⟩ := h
  exact ⟨A, c, rfl, hs.grown (by decide) hg hr⟩
theorem Bytes.now (h : Bytes w v l) : BytesIn w 0 w.heap.size v l := by
  obtain ⟨lo, hi, A, c, rfl, hs⟩ := h
  exact ⟨A, c, rfl, (hs.now (by decide)).wide (Nat.zero_le _) (Nat.le_refl _)⟩
theorem Bytes.after (h : Bytes w v l) (hb : Below w.heap.size w w') : Bytes w' v l := (h.now.after hb).bytes
theorem Bytes.alloc (h : Bytes w v l) (o : Obj) : Bytes (w.alloc o) v l := (h.now.alloc o).bytes
theorem Bytes.drewN (h : Bytes w v l) (n : Nat) : Bytes (w.drewN n) v l := (h.now.drewN n).bytes
end
theorem same_v {u v : Value} {xs ys : List UInt8} {w : World} (ha : Bytes w u xs) (hb : Bytes w v ys) :
    Calls Try.prog 53 #[u, v] w fun e w' => e = .returned (.bool (xs == ys)) ∧ ∃ q, w' = w.drewN q := by
  obtain ⟨_, _, A, c, rfl, hs⟩ := ha
  obtain ⟨_, _, B, d, rfl, ht⟩ := hb
  exact same_any A B _ _ c d _ _ _ _ xs ys w hs ht
theorem same_val {u v : Value} {xs ys : List UInt8} {w : World} {b : Bool} (ha : Bytes w u xs) (hb : Bytes w v ys) (h : (xs == ys) = b) :
    Calls Try.prog 53 #[u, v] w fun e w' => e = .returned (.bool b) ∧ Below w.heap.size w w' := by
  rw [← h]
  exact (same_v ha hb).mono fun _ _ ⟨h1, q, h2⟩ => ⟨h1, h2 ▸ below_drewN (Below.refl _ _) q⟩
theorem same_quiet {u v : Value} {xs ys : List UInt8} {w : World} {b : Bool} (ha : Bytes w u xs) (hb : Bytes w v ys) (h : (xs == ys) = b) :
    Calls Try.prog 53 #[u, v] w fun e w' => e = .returned (.bool b) ∧ ∃ q, w' = w.drewN q := by
  rw [← h]
  exact same_v ha hb

end Go.Proofs.Ytbgdepaffgeinaa
