/- The law ElectAsks, its arguments opened. -/
import Derived.Test.YtbgdepaffgeinaaPKitQ
import Derived.Test.YtbgdepaffgeinaaElAsks
namespace Go.Proofs.Ytbgdepaffgeinaa
open Go.RowKit
theorem electAsks_law {me role vote lead : Int} {term next : Nat} {v1 v5 : Value} {xs : List Int} {l : Nat × Nat × List Ent} {r : Bool} (w : World) (_h0 : -9223372036854775808 ≤ me ∧ me ≤ 9223372036854775807) (hx : IntsIn w v1 xs) (_h2 : -9223372036854775808 ≤ role ∧ role ≤ 9223372036854775807) (_h3 : -9223372036854775808 ≤ vote ∧ vote ≤ 9223372036854775807) (_h4 : term < 18446744073709551616) (hl : IsLog w v5 l) (_h7 : next < 18446744073709551616) (_h8 : -9223372036854775808 ≤ lead ∧ lead ≤ 9223372036854775807) :
    Calls Try.prog 8 #[.int .i64 me, v1, .int .i64 role, .int .i64 vote, .int .u64 (term : Int), v5, .bool r, .int .u64 (next : Int), .int .i64 lead] w fun e w' => e = .returned (.bool true) ∧ Below w.heap.size w w' := by
  obtain ⟨A, c, lo, hi, rfl, hs⟩ := hx
  obtain ⟨base, bt, ls⟩ := l
  obtain ⟨u, rfl, ⟨B, d, lo', hi', rfl, he, hE, -⟩, -⟩ := hl
  exact electAsks_any me A xs.length c lo hi xs role vote term base bt B ls.length d lo' hi' ls r next lead w hs he hE
end Go.Proofs.Ytbgdepaffgeinaa
