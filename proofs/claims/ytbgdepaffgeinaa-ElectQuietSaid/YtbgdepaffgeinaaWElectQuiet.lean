/- The law ElectQuiet, its arguments opened. -/
import Derived.Test.YtbgdepaffgeinaaPKitQ
import Derived.Test.YtbgdepaffgeinaaElQuiet
namespace Go.Proofs.Ytbgdepaffgeinaa
open Go.RowKit
theorem electQuiet_law {me role vote : Int} {term : Nat} {v1 v5 v6 : Value} {xs : List Int} {l : Nat × Nat × List Ent} {es : List Ent} (w : World) (_h0 : -9223372036854775808 ≤ me ∧ me ≤ 9223372036854775807) (hx : IntsIn w v1 xs) (_h2 : -9223372036854775808 ≤ role ∧ role ≤ 9223372036854775807) (_h3 : -9223372036854775808 ≤ vote ∧ vote ≤ 9223372036854775807) (_h4 : term < 18446744073709551616) (hl : IsLog w v5 l) (hm : MsgQ w v6 es) :
    Calls Try.prog 11 #[.int .i64 me, v1, .int .i64 role, .int .i64 vote, .int .u64 (term : Int), v5, v6] w fun e w' => e = .returned (.bool true) ∧ Below w.heap.size w w' := by
  obtain ⟨A, c, lo, hi, rfl, hs⟩ := hx
  obtain ⟨base, bt, ls⟩ := l
  obtain ⟨u, rfl, ⟨B, d, lo', hi', rfl, he, -⟩, -⟩ := hl
  obtain ⟨k, f, dd, t, i, q, cm, ok, dA, dn, dc, mA, mc, lo2, hi2, rfl, hdn, hm⟩ := hm
  exact electQuiet_any me A xs.length c lo hi xs role vote term base bt B ls.length d lo' hi' ls k f dd t i q cm ok dA dn dc mA es.length mc lo2 hi2 es w hs he hdn hm
end Go.Proofs.Ytbgdepaffgeinaa
