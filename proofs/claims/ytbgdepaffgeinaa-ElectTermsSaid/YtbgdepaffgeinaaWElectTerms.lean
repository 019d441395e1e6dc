/- The law ElectTerms, its arguments opened. -/
import Derived.Test.YtbgdepaffgeinaaPKitE
import Derived.Test.YtbgdepaffgeinaaElTerms
namespace Go.Proofs.Ytbgdepaffgeinaa
open Go.RowKit
theorem electTerms_law {many : Int} {v1 v2 : Value} {n : Nat} {os : List (Int × Int)} (w : World) (_hm : -9223372036854775808 ≤ many ∧ many ≤ 9223372036854775807) (hs : LogsV w v1 n) (ho : OpsV w v2 os) :
    Calls Try.prog 9 #[.int .i64 many, v1, v2] w fun e w' => e = .returned (.bool true) ∧ Below w.heap.size w w' := by
  obtain ⟨A, c, vs, rfl, hn, hl⟩ := hs
  obtain ⟨B, d, lo, hi, rfl, hb⟩ := ho
  exact electTerms_any many A n c vs B os.length d lo hi os w hn hl hb
end Go.Proofs.Ytbgdepaffgeinaa
