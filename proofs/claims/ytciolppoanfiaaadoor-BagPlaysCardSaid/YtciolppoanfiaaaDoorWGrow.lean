import Derived.Test.YtciolppoanfiaaaDoorWClone
import Derived.Lib.AppendZeros
namespace Go.Proofs.YtciolppoanfiaaaDoor
open Go.RowKit

set_option maxRecDepth 100000 in
set_option maxHeartbeats 400000 in
theorem grow_any (n : Nat) (w : World) (hn : n ≤ 1000000) :
    Calls Tryd.prog 76 #[.slice none 0 0, .int .i64 (n : Int)] w fun e w' => ∃ v, e = .returned v ∧ w'.ownsRow w.heap.size 5 1 v 0 [] ∧ Below w.heap.size w w' := by
  obtain ⟨i0, hi0, hz0, hz1, hz2⟩ := info_parts u8_info
  have hcap := grownCap_le_maxLen w n 0 5 (by simp only [maxLen]; omega)
  have hge := grownCap_ge w n 0 5
  by_cases h0 : n = 0
  · subst h0
    go_enter Tryd.func76, Tryd.ntmps76
    go_wp2
    go_ret
    exact ⟨_, rfl, World.ownsRow_nil _ _ _ _, Below.refl _ _⟩
  · have h1 : 0 < n := by omega
    have h2 : (0 : Int) < n := by omega
    go_enter Tryd.func76, Tryd.ntmps76
    go_wp2_with (at_builtin; refine Lib.wpList_append_run _ rfl (.tmp 20) (.tmp 21) _ _ rfl _ _ rfl rfl _ _ (Lib.run_append_nil_zeros _ _ _ _ _ i0 (.int .u8 0) .i64 .i64 Tryd.underlying22 Tryd.underlying3 hi0 hz0 n h1 (by rw [hz1]; decide) (by omega) (by rw [hz2]; omega)) ?_)
    go_ret
    refine ⟨_, rfl, ?_, ((Below.refl _ w).alloc (Nat.le_refl _) _).drew⟩
    have hm : grownCap w n 0 5 ≤ maxLen := hcap
    exact World.ownsRow_made w _ (grownCap w n 0 5) (Nat.le_refl _) hm (by simp only [Array.size_append, size_zeroCells]; simp; omega)
end Go.Proofs.YtciolppoanfiaaaDoor
