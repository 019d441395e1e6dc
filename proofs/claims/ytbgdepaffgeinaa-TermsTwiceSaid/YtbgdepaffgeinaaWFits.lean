import Derived.Test.YtbgdepaffgeinaaWLast2
import Derived.Deep.DeepMust
namespace Go.Proofs.Ytbgdepaffgeinaa
open Go.RowKit

def fitsE (base bt : Nat) (es : List Ent) (prev pt m : Nat) : Nat :=
  if base + es.length < prev then 60 else if prev < base then (if prev + m ≤ base then 61 else 0) else if termAt base bt es prev = pt then 0 else 60
set_option maxRecDepth 100000 in
theorem fits_any (base bt n c prev pt m lo hi : Nat) (A : Option Addr) (es : List Ent) (w : World) (hs : Sl w lo hi 3 A n c (ecells es)) (hb : base < 1152921504606846976) (hn : n ≤ 1000) (hm : m ≤ 1000) (hp : prev < 18446744073709551616) :
    Calls Try.prog 54 #[.agg #[.int .u64 (base : Int), .int .u64 (bt : Int), .slice A n c], .int .u64 (prev : Int), .int .u64 (pt : Int), .int .i64 (m : Int)] w fun e w' => e = .returned (.int .i64 (fitsE base bt es prev pt m : Nat)) ∧ Below w.heap.size w w' := by
  have hl : es.length = n := by have := hs.len; rw [ecells_len] at this; omega
  unfold fitsE
  rw [hl]
  by_cases h1 : base + n < prev
  · rw [if_pos h1]
    go_enter Try.func54, Try.ntmps54
    go_wp2_with (go_at_call 15; refine (last_any base n c bt A _ hb hn).mono ?_; rintro e w1 ⟨rfl, hb1⟩)
    go_ret
    exact ⟨rfl, below_boxed hb1⟩
  · rw [if_neg h1]
    by_cases h2 : prev < base
    · rw [if_pos h2]
      by_cases h3 : prev + m ≤ base
      · rw [if_pos h3]
        go_enter Try.func54, Try.ntmps54
        go_wp2_with (go_at_call 15; refine (last_any base n c bt A _ hb hn).mono ?_; rintro e w1 ⟨rfl, hb1⟩; obtain ⟨x0, x1, x2⟩ := ((Blk.new w _ _).after hb1).c3)
        go_ret
        exact ⟨rfl, below_boxed hb1⟩
      · rw [if_neg h3]
        go_enter Try.func54, Try.ntmps54
        go_wp2_with (go_at_call 15; refine (last_any base n c bt A _ hb hn).mono ?_; rintro e w1 ⟨rfl, hb1⟩; obtain ⟨x0, x1, x2⟩ := ((Blk.new w _ _).after hb1).c3)
        go_ret
        exact ⟨rfl, below_boxed hb1⟩
    · rw [if_neg h2]
      have hT := fun w' (h : Below w.heap.size w w') => term_any base bt n c prev lo _ A es w' (hs.now (by decide) |>.below h (Nat.le_refl _)) hb hn hp
      generalize termAt base bt es prev = T at hT ⊢
      generalize decide (base ≤ prev ∧ prev ≤ base + n) = d at hT
      have HT := Lib.hid hT
      clear hT
      by_cases h4 : T = pt
      · rw [if_pos h4]
        have hne : ((T : Int) != (pt : Int)) = false := by simp; omega
        go_enter Try.func54, Try.ntmps54
        go_wp2_with (first
          | (go_at_call 16; have _g := hb1; go_must (refine (HT.out _ (below_boxed hb1)).mono ?_; rintro e w2 ⟨rfl, hb2⟩))
          | (go_at_call 15; go_must (refine (last_any base n c bt A _ hb hn).mono ?_; rintro e w1 ⟨rfl, hb1⟩; obtain ⟨x0, x1, x2⟩ := ((Blk.new w _ _).after hb1).c3)))
        go_ret
        exact ⟨rfl, (below_boxed hb1).trans (hb2.mono (below_boxed hb1).size)⟩
      · rw [if_neg h4]
        have hne : ((T : Int) != (pt : Int)) = true := by simp; omega
        go_enter Try.func54, Try.ntmps54
        go_wp2_with (first
          | (go_at_call 16; have _g := hb1; go_must (refine (HT.out _ (below_boxed hb1)).mono ?_; rintro e w2 ⟨rfl, hb2⟩))
          | (go_at_call 15; go_must (refine (last_any base n c bt A _ hb hn).mono ?_; rintro e w1 ⟨rfl, hb1⟩; obtain ⟨x0, x1, x2⟩ := ((Blk.new w _ _).after hb1).c3)))
        go_ret
        exact ⟨rfl, (below_boxed hb1).trans (hb2.mono (below_boxed hb1).size)⟩
end Go.Proofs.Ytbgdepaffgeinaa
