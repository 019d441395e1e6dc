/- One thing is done in a group. -/
import Derived.Test.YtbgdepaffgeinaaEzGrp
namespace Go.Proofs.Ytbgdepaffgeinaa
open Go.RowKit
/-- the group's blocks, and its nodes' -/
def GrpOwn (r : GR) (g : Nat) (xs : List GN) : Nat → Prop := fun k => r.W g k ∨ ∃ y ∈ xs, y.O k
theorem GrpP.own_low {H : Nat} {w : World} {g : Nat} {r : GR} {xs : List GN} {G : GP} (h : GrpP H w g r xs G) : ∀ k, GrpOwn r g xs k → H ≤ k ∧ k < w.heap.size := by
  rintro k (hk | ⟨y, hy, hk⟩)
  · refine ⟨?_, h.W_lt k hk⟩
    rcases hk with rfl | hk | hk | hk | hk
    · exact h.hg
    · exact (h.nodes.lt k hk).1
    · exact (h.msgs.lt k hk).1
    · exact (h.terms.lt k hk).1
    · exact (h.leads.lt k hk).1
  · exact ⟨(h.node y hy).low k hk, (h.node y hy).top k hk⟩
section
variable {H : Nat} {w : World} {g : Nat} {r : GR} {xs : List GN} {G : GP}
set_option maxRecDepth 100000 in
set_option maxHeartbeats 1600000 in
/-- nobody is there -/
theorem play_out (what k : Int) (w : World) (h : GrpP H w g r xs G) (h3 : what ≠ 3) (hk : ¬ (0 ≤ k ∧ k < (xs.length : Int))) :
    Calls Try.prog 45 #[.pointer (some ⟨g, 0, none⟩), .agg #[.int .i64 what, .int .i64 k]] w fun e w' => e = .returned (.tuple #[]) ∧ GrpP H w' g r xs G ∧ Below w.heap.size w w' := by
  have x0 : w.cell? ⟨g, 0, none⟩ = some r.nv := h.blk.cell 0
  obtain ⟨A, c, hv, -⟩ := own_sl h.nodes
  rw [hv] at x0
  have hgl := h.blk.lt
  have hne : g ≠ w.heap.size := by omega
  have e3 : (what == 3) = false := by simp [h3]
  have HH := Lib.hid h
  clear h hv
  generalize xs.length = n at x0 hk
  by_cases h0 : k < 0
  · go_enter Try.func45, Try.ntmps45
    go_wp2
    refine bodyPost_ret (results_none rfl _ _ _) rfl ?_
    exact ⟨rfl, HH.out.after ((Below.refl _ w).alloc (Nat.le_refl _) _), (Below.refl _ w).alloc (Nat.le_refl _) _⟩
  · have h1 : (n : Int) ≤ k := by omega
    go_enter Try.func45, Try.ntmps45
    go_wp2
    refine bodyPost_ret (results_none rfl _ _ _) rfl ?_
    exact ⟨rfl, HH.out.after ((Below.refl _ w).alloc (Nat.le_refl _) _), (Below.refl _ w).alloc (Nat.le_refl _) _⟩
end
end Go.Proofs.Ytbgdepaffgeinaa
