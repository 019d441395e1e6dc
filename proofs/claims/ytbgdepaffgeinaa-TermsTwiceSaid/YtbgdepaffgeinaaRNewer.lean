import Derived.Test.YtbgdepaffgeinaaREntry
namespace Go.Proofs.Ytbgdepaffgeinaa
open Go.RowKit

set_option maxRecDepth 100000 in
theorem rlastTerm_any (base bt n c lo hi : Nat) (A : Option Addr) (es : List Ent) (w : World) (hs : Sl w lo hi 3 A n c (ecells es)) (hb : base < 1152921504606846976) (hn : n ≤ 1000) :
    Calls Try.prog 25 #[.agg #[.int .u64 (base : Int), .int .u64 (bt : Int), .slice A n c]] w fun e w' => e = .returned (.int .u64 (lastTerm base bt es : Nat)) ∧ Below w.heap.size w w' := by
  have hl : es.length = n := by have := hs.len; rw [ecells_len] at this; omega
  have hcap := hs.cap
  have hmax := hs.max
  by_cases h0 : n = 0
  · have hL : lastTerm base bt es = bt := by unfold lastTerm; rw [hl, h0]; simp [termAt]
    rw [hL]
    subst h0
    go_enter Try.func25, Try.ntmps25
    go_wp2
    go_ret
    exact ⟨rfl, (Below.refl _ _).alloc (Nat.le_refl _) _⟩
  · obtain ⟨ad, e, rfl, he, c0, c1, c2⟩ := (hs.alloc (by decide) (.cells #[.int .u64 (base : Int), .int .u64 (bt : Int), .slice A n c] 28)).ent (k := n - 1) (by omega)
    have hL : lastTerm base bt es = e.t := by
      unfold lastTerm termAt
      rw [hl, if_neg (by omega), entAt_in (by omega) (by rw [← he]; congr 1; omega)]
    rw [hL]
    go_enter Try.func25, Try.ntmps25
    go_wp2
    go_ret
    exact ⟨rfl, (Below.refl _ _).alloc (Nat.le_refl _) _⟩
set_option maxRecDepth 100000 in
theorem rnewer_any (base bt n c term last lo hi : Nat) (A : Option Addr) (es : List Ent) (w : World) (hs : Sl w lo hi 3 A n c (ecells es)) (hb : base < 1152921504606846976) (hn : n ≤ 1000) :
    Calls Try.prog 26 #[.agg #[.int .u64 (base : Int), .int .u64 (bt : Int), .slice A n c], .int .u64 (term : Int), .int .u64 (last : Int)] w fun e w' => e = .returned (.bool (decide (lastTerm base bt es < term ∨ (term = lastTerm base bt es ∧ base + n ≤ last)))) ∧ Below w.heap.size w w' := by
  have hL := rlastTerm_any base bt n c lo _ A es (w.alloc (.cells #[.int .u64 (base : Int), .int .u64 (bt : Int), .slice A n c] 28)) (hs.alloc (by decide) _) hb hn
  generalize lastTerm base bt es = T at hL ⊢
  by_cases h2 : term = T
  · subst h2
    have hd : decide (term < term ∨ (term = term ∧ base + n ≤ last)) = decide ((base : Int) + n ≤ last) := decide_eq_decide.2 ⟨fun _ => by omega, fun _ => .inr ⟨rfl, by omega⟩⟩
    rw [hd]
    go_enter Try.func26, Try.ntmps26
    go_wp2_with fail
    refine hL.mono ?_
    rintro e' w1 ⟨rfl, hb1⟩
    obtain ⟨x0, x1, x2⟩ := ((Blk.new w _ _).after hb1).c3
    go_wp2_with (go_at_call 23; refine (rlast_any base n c bt A _ hb hn).mono ?_; rintro e w3 ⟨rfl, hb3⟩)
    go_ret
    exact ⟨rfl, (below_boxed hb1).trans (hb3.mono (below_boxed hb1).size)⟩
  · have hne : ((term : Int) != (T : Int)) = true := by simp; omega
    by_cases h3 : T < term
    · have hd : decide (T < term ∨ (term = T ∧ base + n ≤ last)) = true := decide_eq_true (.inl h3)
      rw [hd]
      go_enter Try.func26, Try.ntmps26
      go_wp2_with (go_at_call 25; refine hL.mono ?_; rintro e' w1 ⟨rfl, hb1⟩)
      go_ret
      exact ⟨rfl, below_boxed hb1⟩
    · have hd : decide (T < term ∨ (term = T ∧ base + n ≤ last)) = false := decide_eq_false (by omega)
      rw [hd]
      go_enter Try.func26, Try.ntmps26
      go_wp2_with (go_at_call 25; refine hL.mono ?_; rintro e' w1 ⟨rfl, hb1⟩)
      go_ret
      exact ⟨rfl, below_boxed hb1⟩
end Go.Proofs.Ytbgdepaffgeinaa
