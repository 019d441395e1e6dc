/- Bytes written and read: the words of the frames' texts, without sums. -/
import Derived.Test.YtciolppoanfiaaaWWriter
import Derived.Test.YtciolppoanfiaaaBytesK
namespace Go.Proofs.Ytciolppoanfiaaa
open Go.RowKit
theorem ret_int {k : IntKind} {a b : Int} (h : a = b) : Ending.returned (.int k a) = .returned (.int k b) := by rw [h]

set_option maxRecDepth 100000 in
set_option maxHeartbeats 400000 in
theorem wout_any (g n : Nat) (v : Value) (xs : List UInt8) (w : World) (hb : Blk w g 52 #[v]) (base : Nat) (hown : w.ownsRow base 5 1 v n (xs.map bv)) (hn : n ≤ 1000000) :
    Calls Try.prog 26 #[.pointer (some ⟨g, 0, none⟩)] w fun e w' =>
      ∃ u, e = .returned u ∧ w'.ownsRow w.heap.size 5 1 u n (xs.map bv) ∧ Below w.heap.size w w' := by
  obtain ⟨A, c, rfl, hs⟩ := own_sl hown
  have hc := hb.cell 0
  simp only [List.getElem?_toArray, List.getElem?_cons_zero] at hc
  go_enter Try.func26, Try.ntmps26
  go_wp2_with (go_at_call 32; refine (clone_any A n c _ _ xs _ hs hn).mono ?_; rintro e w1 ⟨u, rfl, hown1, hb1⟩)
  go_ret
  exact ⟨u, rfl, hown1, hb1⟩

end Go.Proofs.Ytciolppoanfiaaa
