/- Rows of messages of the law's own; one of them taken out: plain words and laws. -/
import Derived.Test.YtciolppoanfiaaaDoorXMsgs
import Derived.Test.YtciolppoanfiaaaDoorWBagE
namespace Go.Proofs.YtciolppoanfiaaaDoor
open Go.RowKit
theorem own_same {w w1 : World} {base e size n : Nat} {v : Value} {xs : List Value} (h : w.ownsRow base e size v n xs) (hb : ∀ b, v.ownBlock = some b → w1.heap[b]? = w.heap[b]?) : w1.ownsRow base e size v n xs := by
  rcases h.2 with hn | ⟨b, cap, cur, hv, h1, h2, rest⟩
  · exact ⟨h.1, .inl hn⟩
  · exact ⟨h.1, .inr ⟨b, cap, cur, hv, h1, (hb b (by rw [hv]; rfl)).trans h2, rest⟩⟩
/-- the messages that were sent -/
def sentM (ls : List Msg) : List Msg := ls.filter fun m => decide (m.plain.pkE = 0)
def frs (ms : List Msg) : List (List UInt8) := ms.map fun m => m.plain.pkL
theorem sentM_yes {ls : List Msg} {k : Nat} {m : Msg} (h : ls[k]? = some m) (hE : m.plain.pkE = 0) : sentM (ls.take (k + 1)) = sentM (ls.take k) ++ [m] := by
  obtain ⟨h1, h2⟩ := List.getElem?_eq_some_iff.1 h
  unfold sentM
  rw [List.take_succ_eq_append_getElem h1, List.filter_append, h2]
  simp [hE]
theorem sentM_no {ls : List Msg} {k : Nat} {m : Msg} (h : ls[k]? = some m) (hE : m.plain.pkE ≠ 0) : sentM (ls.take (k + 1)) = sentM (ls.take k) := by
  obtain ⟨h1, h2⟩ := List.getElem?_eq_some_iff.1 h
  unfold sentM
  rw [List.take_succ_eq_append_getElem h1, List.filter_append, h2]
  simp [hE]
theorem sentM_len (ls : List Msg) (k : Nat) : (sentM (ls.take k)).length ≤ k := Nat.le_trans (List.length_filter_le _ _) (List.length_take_le _ _)
/-- the row of all that lie in the bag: of the law's own, no block of the bag's -/
structure AllRow (H : Nat) (w : World) (O : Nat → Prop) (v : Value) (ms : List Msg) : Prop where
  row : w.ownsRow H 41 10 v ms.length (mscells ms)
  apart : ∀ b, v.ownBlock = some b → ¬ O b
section
variable {H : Nat} {w w1 w2 : World} {O O' : Nat → Prop} {v v2 : Value} {ms ns : List Msg} {g lost : Nat} {fs : List (List UInt8)} {ks : List (Int × Int)}
theorem AllRow.chg (h : AllRow H w O v ms) (hc : Chg O w w1) (hs : Sub O w O') : AllRow H w1 O' v ms :=
  ⟨own_same h.row fun b hb => hc.block b (h.row.lt b hb).2 (h.apart b hb), fun b hb hO => by
    rcases hs b hO with h1 | h1
    · exact h.apart b hb h1
    · have := (h.row.lt b hb).2; omega⟩
theorem AllRow.below (h : AllRow H w O v ms) (hb : Below w.heap.size w w1) : AllRow H w1 O v ms := ⟨own_same h.row fun b hv => hb.block b (h.row.lt b hv).2, h.apart⟩
/-- the row turns, or is another one behind: the bag stays -/
theorem BagAt.rowed (h : BagAt H w O g fs ks lost) {r : Option Nat} (hg : w.grownBy w1 r) (hr : ∀ b, r = some b → ¬ O b) : BagAt H w1 O g fs ks lost :=
  h.keep (fun b hO => hg.block b (h.top b hO) (fun e => hr b e.symm hO)) hg.size
theorem AllRow.grown (hv : ∀ b, v.ownBlock = some b → ¬ O b) (hB : BagAt H w O g fs ks lost) (ho : w2.ownsRow H 41 10 v2 ns.length (mscells ns)) (hat : v2.ownBlock = v.ownBlock ∨ v2.ownBlock = some w.heap.size) : AllRow H w2 O v2 ns :=
  ⟨ho, fun b hb hO => by
    rcases hat with e | e
    · exact hv b (e ▸ hb) hO
    · rw [e] at hb; injection hb with hb; have := hB.top b hO; omega⟩
theorem sent_app {w0 w4 : World} {o : Obj} {m : Msg} {v4 : Value} (hB : BagAt H w O g fs ks lost) (hA : AllRow H w O v ms) (hb : Below H w0 w) (hH : H ≤ w.heap.size) (hown : w4.ownsRow H 41 10 v4 (ms.length + 1) (mscells ms ++ mlist m)) (hg : (w.alloc o).grownBy w4 v.ownBlock) (hat : v4.ownBlock = v.ownBlock ∨ v4.ownBlock = some (w.alloc o).heap.size) :
    BagAt H w4 O g fs ks lost ∧ AllRow H w4 O v4 (ms ++ [m]) ∧ Below H w0 w4 :=
  ⟨(hB.alloc o).rowed hg hA.apart, AllRow.grown hA.apart (hB.alloc o) (by rw [mscells_append, List.length_append]; exact hown) hat, (hb.alloc hH o).grown hg (Nat.le_trans hH (by simp)) fun b hb => (hA.row.lt b hb).1⟩
theorem erase_row {w0 : World} {o : Obj} {v1 : Value} {d m : Nat} (hB : BagAt H w O g fs ks lost) (hb : Below H w0 w) (hH : H ≤ w.heap.size) (hm : d + 1 + m = ms.length)
    (o2 : w2.ownsRow H 41 10 v2 (0 + d + m) (([] ++ ((mscells ms).drop (0 * 10)).take (d * 10)) ++ ((mscells ms).drop ((d + 1) * 10)).take (m * 10)))
    (g1 : (w.alloc o).grownBy w1 (some w.heap.size)) (a1 : v1.ownBlock = some w.heap.size ∨ v1.ownBlock = some (w.alloc o).heap.size) (g2 : w1.grownBy w2 v1.ownBlock) (a2 : v2.ownBlock = v1.ownBlock ∨ v2.ownBlock = some w1.heap.size) :
    BagAt H w2 O g fs ks lost ∧ AllRow H w2 O v2 (ms.eraseIdx d) ∧ Below H w0 w2 := by
  have e1 : (w.alloc o).heap.size = w.heap.size + 1 := alloc_size _ _
  have hv1 : ∀ b, v1.ownBlock = some b → w.heap.size ≤ b := fun b h => by
    rcases a1 with e | e <;> (rw [e] at h; injection h with h; omega)
  have hB1 : BagAt H w1 O g fs ks lost := (hB.alloc o).rowed g1 fun b h hO => by injection h with h; have := hB.top b hO; omega
  have hb1 : Below H w0 w1 := (hb.alloc hH o).grown g1 (by omega) fun b h => by injection h with h; omega
  have hs1 := g1.size
  have hX : ([] ++ ((mscells ms).drop (0 * 10)).take (d * 10)) ++ ((mscells ms).drop ((d + 1) * 10)).take (m * 10) = mscells (ms.eraseIdx d) := by
    rw [List.eraseIdx_eq_take_drop_succ, mscells_append, mscells_take, mscells_drop, List.nil_append, Nat.zero_mul, List.drop_zero]
    congr 1
    exact List.take_of_length_le (by rw [List.length_drop, mscells_len]; omega)
  have hL : 0 + d + m = (ms.eraseIdx d).length := by rw [List.length_eraseIdx, if_pos (by omega)]; omega
  rw [hX, hL] at o2
  exact ⟨hB1.rowed g2 fun b h hO => by have := hB.top b hO; have := hv1 b h; omega, AllRow.grown (v := v1) (fun b h hO => by have := hB.top b hO; have := hv1 b h; omega) hB1 o2 a2, hb1.grown g2 (by omega) fun b h => by have := hv1 b h; omega⟩
end
theorem pk_pos {p : PMsg} (h : p.pkE = 0) : 0 < p.pkL.length := by
  have hc : p.check = 0 := by
    refine Decidable.byContradiction fun hc => ?_
    have := (pk_bad hc).1
    omega
  have hl : p.enc.length ≤ 1000 := by
    refine Decidable.byContradiction fun hl => ?_
    have := (pk_long hc (by omega)).1
    omega
  have := (pk_ok hc hl).2
  rw [this, frameOf_len]
  omega
theorem frs_at {ms : List Msg} {k : Nat} {m : Msg} (h : ms[k]? = some m) : (frs ms)[k]? = some m.plain.pkL := by unfold frs; rw [List.getElem?_map, h]; rfl
theorem frs_len (ms : List Msg) : (frs ms).length = ms.length := by unfold frs; rw [List.length_map]
theorem frs_erase (ms : List Msg) (k : Nat) : (frs ms).eraseIdx k = frs (ms.eraseIdx k) := by unfold frs; rw [Go.ChangeMaps.map_eraseIdx]
theorem erase_tk (ms : List Msg) (k : Nat) : ms.take k ++ ms.drop (k + 1) = ms.eraseIdx k := (List.eraseIdx_eq_take_drop_succ ms k).symm
end Go.Proofs.YtciolppoanfiaaaDoor
