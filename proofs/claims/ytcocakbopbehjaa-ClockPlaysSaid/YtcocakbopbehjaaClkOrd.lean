/- The timers' order. -/
import Derived.Test.YtcocakbopbehjaaClkCmp
namespace Go.Proofs.Ytcocakbopbehjaa
open Go.RowKit Go.Sort
def cmpT (t u : Tm) : Int := orZ (cmpZ (t.2 : Int) (u.2 : Int)) (cmpZ t.1 u.1)
/-- a world with the two boxes, draws and blocks behind -/
def After (wb W : World) : Prop := ∃ q os, W = grow (wb.drewN q) os
theorem After.refl (w : World) : After w w := ⟨0, #[], by rw [grow_empty]; rfl⟩
theorem After.drew {w W : World} (h : After w W) : After w W.drew := by
  obtain ⟨q, os, rfl⟩ := h
  exact ⟨q + 1, os, rfl⟩
theorem After.alloc {w W : World} (h : After w W) (o : Obj) : After w (W.alloc o) := by
  obtain ⟨q, os, rfl⟩ := h
  exact ⟨q, os ++ #[o], by rw [alloc_eq_grow, grow_grow]⟩
set_option maxRecDepth 100000 in
set_option maxHeartbeats 4000000 in
theorem order_any (t u : Tm) (w : World) : Calls Try.prog 30 #[tmv t, tmv u] w fun e w' => e = .returned (.int .i64 (cmpT t u)) ∧ After w w' := by
  unfold cmpT
  obtain ⟨ti, ta⟩ := t
  obtain ⟨ui, ua⟩ := u
  simp only [tmv]
  generalize hx : cmpZ (ta : Int) (ua : Int) = x
  generalize hy : cmpZ ti ui = y
  have HU : Hid (∀ W, Calls Try.prog 41 #[.int .u64 (ta : Int), .int .u64 (ua : Int)] W fun e w' => e = .returned (.int .i64 x) ∧ W = w') := fun W => by have := cmpU_any (ta : Int) (ua : Int) W; rwa [hx] at this
  have HI : Hid (∀ W, Calls Try.prog 42 #[.int .i64 ti, .int .i64 ui] W fun e w' => e = .returned (.int .i64 y) ∧ W = w') := fun W => by have := cmpI_any ti ui W; rwa [hy] at this
  clear hx hy
  go_enter Try.func30, Try.ntmps30
  go_wp2
  have B1 := (Blk.new w 62 #[.int .i64 ti, .int .u64 (ta : Int)]).alloc (.cells #[.int .i64 ui, .int .u64 (ua : Int)] 62)
  have B2 := Blk.new (w.alloc (.cells #[.int .i64 ti, .int .u64 (ta : Int)] 62)) 62 #[.int .i64 ui, .int .u64 (ua : Int)]
  have A0 : After w ((w.alloc (.cells #[.int .i64 ti, .int .u64 (ta : Int)] 62)).alloc (.cells #[.int .i64 ui, .int .u64 (ua : Int)] 62)) := ((After.refl w).alloc _).alloc _
  have e2 : (w.alloc (.cells #[.int .i64 ti, .int .u64 (ta : Int)] 62)).heap.size = w.heap.size + 1 := by simp
  rw [e2] at B2
  generalize (w.alloc (.cells #[.int .i64 ti, .int .u64 (ta : Int)] 62)).alloc (.cells #[.int .i64 ui, .int .u64 (ua : Int)] 62) = wb at B1 B2 A0 ⊢
  generalize w.heap.size + 1 = b2 at B2 ⊢
  generalize w.heap.size = b1 at B1 ⊢
  obtain ⟨x0, x1⟩ := B1.c2
  obtain ⟨y0, y1⟩ := B2.c2
  have HA0 := Lib.hid A0
  clear B1 B2 A0 e2
  go_region_held3 (fun W' => W'.cell? ⟨b1, 0, none⟩ = some (.int .i64 ti) ∧ W'.cell? ⟨b1, 1, none⟩ = some (.int .u64 (ta : Int)) ∧ W'.cell? ⟨b2, 0, none⟩ = some (.int .i64 ui) ∧ W'.cell? ⟨b2, 1, none⟩ = some (.int .u64 (ua : Int)) ∧ After w W') (first | exact ⟨x0, x1, y0, y1, HA0.out.drew⟩ | (refine ⟨?_, ?_, ?_, ?_, ?_⟩ <;> first | assumption | exact HA0.out.drew | exact (HA0.out.alloc _).drew | exact HA0.out.drew.alloc _ | (apply After.alloc; assumption) | (apply After.drew; assumption) | (apply Lib.cell?_alloc_some; assumption) | go_keep)) (first
    | (go_at_call 41; refine (HU.out _).mono ?_; rintro e _ ⟨rfl, rfl⟩)
    | (go_at_call 42; refine (HI.out _).mono ?_; rintro e _ ⟨rfl, rfl⟩)
    | (go_at_call 40; refine (or_any x y _ _ (by simp) (by simp)).mono ?_; rintro e _ ⟨rfl, rfl⟩))
  go_wp2
  go_ret
  exact ⟨rfl, (HA0.out.alloc _).drew⟩
end Go.Proofs.Ytcocakbopbehjaa
