import Derived.Test.YtciolppoanfiaaaWReader
import Derived.Deep.RegionWith

namespace Go.Proofs.Ytciolppoanfiaaa
open Go.RowKit

theorem le_bound (l : List UInt8) (k : Nat) (h : l.length ≤ k) : le l < 256 ^ k :=
  Nat.lt_of_lt_of_le (le_lt l) (Nat.pow_le_pow_right (by decide) h)
theorem rdT_len (s : Bool) (l : List UInt8) (n : Nat) : (rdT s l n).length ≤ n := by unfold rdT; split <;> simp; omega
theorem only_trans {a b c : World} {g : Nat} (h1 : a.grownBy b (some g)) (h2 : b.grownBy c (some g)) : a.grownBy c (some g) :=
  ⟨h2.os.trans h1.os, h2.tape.trans h1.tape, h2.output.trans h1.output, Nat.le_trans h1.size h2.size, fun k hk hne => (h2.block k (Nat.lt_of_lt_of_le hk h1.size) hne).trans (h1.block k hk hne)⟩

set_option maxRecDepth 100000 in
set_option maxHeartbeats 400000 in
theorem read_any {v : Value} {l : List UInt8} (w : World) (ha : Bytes w v l) :
    Calls Try.prog 13 #[v] w fun e w' => e = .returned (.pointer (some ⟨w.heap.size, 0, none⟩)) ∧ Rdr w' w.heap.size 0 w.heap.size l false ∧ Below w.heap.size w w' := by
  have h1 := ha.now.alloc (.cells #[v, .bool false] 61)
  have h2 := Blk.new w 61 #[v, .bool false]
  obtain ⟨_, _, A, c, rfl, hs⟩ := ha
  clear hs
  generalize l.length = m at h1 h2 ⊢
  have H1 := Lib.hid h1
  have H2 := Lib.hid h2
  clear h1 h2
  go_enter Try.func13, Try.ntmps13
  go_wp2
  go_ret
  exact ⟨rfl, ⟨.inr (Nat.le_refl _), _, H2.out, H1.out⟩, (Below.refl _ w).alloc (Nat.le_refl _) _⟩

end Go.Proofs.Ytciolppoanfiaaa
