/- A block that is known whole. -/
import Derived.Test.YtbgdepaffgeinaaOwn
import Derived.Test.YtbgdepaffgeinaaWSame
import Derived.Laws.Rows
namespace Go.Proofs.Ytbgdepaffgeinaa
open Go.RowKit
/-- block g is just the cells cs of element type t, none frozen -/
def Blk (w : World) (g : Nat) (t : TypeId) (cs : Array Value) : Prop := w.heap[g]? = some (.cells cs t (0, 0))
section
variable {w w' : World} {g : Nat} {t : TypeId} {cs : Array Value}
theorem Blk.lt (h : Blk w g t cs) : g < w.heap.size := by
  rcases Nat.lt_or_ge g w.heap.size with hlt | hge
  · exact hlt
  · unfold Blk at h; rw [Array.getElem?_eq_none hge] at h; cases h
theorem Blk.cell (h : Blk w g t cs) (i : Nat) : w.cell? ⟨g, i, none⟩ = cs[i]? := cell_of_row w g i cs t (0, 0) h
theorem Blk.frozen (h : Blk w g t cs) (i : Nat) : w.frozen? ⟨g, i, none⟩ = false := by
  unfold Blk at h
  simp [World.frozen?, h]
theorem Blk.new (w : World) (t : TypeId) (cs : Array Value) : Blk (w.alloc (.cells cs t)) w.heap.size t cs := heap_alloc_new w _
theorem Blk.drew (h : Blk w g t cs) : Blk w.drew g t cs := h
theorem Blk.drewN (h : Blk w g t cs) (n : Nat) : Blk (w.drewN n) g t cs := h
theorem Blk.alloc (h : Blk w g t cs) (o : Obj) : Blk (w.alloc o) g t cs := (Below.heap_alloc w o g h.lt).trans h
theorem Blk.set_ (h : Blk w g t cs) (i : Nat) (u : Value) : Blk (w.setCell ⟨g, i, none⟩ u) g t (cs.setIfInBounds i u) := by
  unfold Blk at h ⊢
  simp [World.setCell, Array.getElem?_modify, h]
theorem Blk.far (h : Blk w g t cs) {p : Addr} (hp : g ≠ p.block) (u : Value) : Blk (w.setCell p u) g t cs := (Below.heap_setCell w p u g hp).trans h
theorem Blk.below {B : Nat} (h : Blk w g t cs) (hb : Below B w w') (hg : g < B) : Blk w' g t cs := (hb.block g hg).trans h
theorem Blk.after (h : Blk w g t cs) (hb : Below w.heap.size w w') : Blk w' g t cs := (hb.block g h.lt).trans h
theorem Blk.grown {row : Option Nat} (h : Blk w g t cs) (hb : w.grownBy w' row) (hg : some g ≠ row) : Blk w' g t cs := (hb.block g h.lt hg).trans h
end
/-- the cells that were just laid, as a slice -/
theorem sl_new (w : World) (size n c : Nat) (cs : Array Value) (t : TypeId) (h : cs.size = n * size) (hc : n ≤ c) (hm : c ≤ 9223372036854775807) : Sl (w.alloc (.cells cs t)) w.heap.size (w.heap.size + 1) size (some ⟨w.heap.size, 0, none⟩) n c cs.toList :=
  ⟨by simpa using h, hc, hm, fun _ => ⟨_, rfl, Nat.le_refl _, Nat.lt_succ_self _, fun j u hu => by
    have hadd : (⟨w.heap.size, 0, none⟩ : Addr).add j = ⟨w.heap.size, j, none⟩ := by unfold Addr.add; split <;> simp_all
    rw [hadd, (Blk.new w t cs).cell j]
    simpa using hu⟩⟩
theorem sl_at (w : World) (g size n c : Nat) (cs : Array Value) (t : TypeId) (hg : w.heap.size = g) (h : cs.size = n * size) (hc : n ≤ c) (hm : c ≤ 9223372036854775807) : Sl (w.alloc (.cells cs t)) g (g + 1) size (some ⟨g, 0, none⟩) n c cs.toList := by
  subst hg
  exact sl_new w size n c cs t h hc hm
theorem sl_one (w : World) (v : Value) (t : TypeId) : Sl (w.alloc (.cells #[v] t)) w.heap.size (w.heap.size + 1) 1 (some ⟨w.heap.size, 0, none⟩) 1 1 [v] :=
  sl_new w 1 1 1 #[v] t rfl (Nat.le_refl _) (by decide)
theorem one_bv (b : UInt8) : ∀ u ∈ [bv b], u.oneCell' = true := by intro u hu; rw [List.mem_singleton.1 hu]; rfl
section
variable {w w' : World} {base e size n : Nat} {v : Value} {xs : List Value}
theorem own_set {g : Nat} (h : w.ownsRow base e size v n xs) (hg : g < base) (i : Nat) (u : Value) : (w.setCell ⟨g, i, none⟩ u).ownsRow base e size v n xs := ownsRow_setCell_below h hg u
theorem own_off (h : w.ownsRow base e size v n xs) {g : Nat} (hg : g < base) : some g ≠ v.ownBlock := fun e => by have := (h.lt g e.symm).1; omega
theorem below_alloc' {B : Nat} {a : World} (h : Below B a w) (o : Obj) (hB : B ≤ a.heap.size) : Below B a (w.alloc o) := h.alloc (Nat.le_trans hB h.size) o
end
end Go.Proofs.Ytbgdepaffgeinaa
