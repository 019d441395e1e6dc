/- Bytes compared: the words that the seat without frames has in BytesK. -/
import Derived.Test.YtciolppoanfiaaaDoorWFrame
import Derived.Laws.OwnMore
namespace Go.Proofs.YtciolppoanfiaaaDoor
open Go.RowKit
theorem same_val {u v : Value} {xs ys : List UInt8} {w : World} {b : Bool} (ha : Bytes w u xs) (hb : Bytes w v ys) (h : (xs == ys) = b) :
    Calls Tryd.prog 17 #[u, v] w fun e w' => e = .returned (.bool b) ∧ Below w.heap.size w w' := by
  rw [← h]
  exact (same_v ha hb).mono fun _ _ ⟨h1, q, h2⟩ => ⟨h1, h2 ▸ below_drewN (Below.refl _ _) q⟩
theorem same_quiet {u v : Value} {xs ys : List UInt8} {w : World} {b : Bool} (ha : Bytes w u xs) (hb : Bytes w v ys) (h : (xs == ys) = b) :
    Calls Tryd.prog 17 #[u, v] w fun e w' => e = .returned (.bool b) ∧ ∃ q, w' = w.drewN q := by
  rw [← h]
  exact same_v ha hb

end Go.Proofs.YtciolppoanfiaaaDoor
