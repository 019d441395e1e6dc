import Derived.Test.YtbgdepaffgeinaaWLast
import Derived.Deep.RegionLaw
import Derived.Deep.DeepCutAuto
import Derived.Deep.RegionWith
namespace Go.Proofs.Ytbgdepaffgeinaa
open Go.RowKit

def lastTerm (base bt : Nat) (es : List Ent) : Nat := termAt base bt es (base + es.length)
set_option maxRecDepth 100000 in
theorem lastTerm_any (base bt n c lo hi : Nat) (A : Option Addr) (es : List Ent) (w : World) (hs : Sl w lo hi 3 A n c (ecells es)) (hb : base < 1152921504606846976) (hn : n ≤ 1000) :
    Calls Try.prog 20 #[.agg #[.int .u64 (base : Int), .int .u64 (bt : Int), .slice A n c]] w fun e w' => e = .returned (.int .u64 (lastTerm base bt es : Nat)) ∧ Below w.heap.size w w' := by
  have hl : es.length = n := by have := hs.len; rw [ecells_len] at this; omega
  unfold lastTerm
  rw [hl]
  have hT := fun w' (h : Below w.heap.size w w') => term_any base bt n c (base + n) lo _ A es w' (hs.now (by decide) |>.below h (Nat.le_refl _)) hb hn (by omega)
  generalize termAt base bt es (base + n) = T at hT ⊢
  generalize decide (base ≤ base + n ∧ base + n ≤ base + n) = d at hT
  have hi2 : ((base + n : Nat) : Int) = (base : Int) + (n : Int) := by omega
  rw [hi2] at hT
  have HT := Lib.hid hT
  clear hT
  go_enter Try.func20, Try.ntmps20
  go_wp2
  have hB := (Below.refl w.heap.size w).alloc (Nat.le_refl _) (.cells #[.int .u64 (base : Int), .int .u64 (bt : Int), .slice A n c] 25)
  have B1 := Blk.new w 25 #[.int .u64 (base : Int), .int .u64 (bt : Int), .slice A n c]
  generalize hw : w.alloc (Obj.cells #[.int .u64 (base : Int), .int .u64 (bt : Int), .slice A n c] 25) = wb at hB B1 ⊢
  clear hw
  obtain ⟨x0, x1, x2⟩ := B1.c3
  go_cut [3] (fun v6 w' => v6 = .int .u64 (T : Int) ∧ Below w.heap.size w w')
  case first =>
    go_region_law (first
      | (have _g := hB2; go_simp; go_at_call 16; refine (HT.out _ hB2).mono ?_; rintro e w4 ⟨rfl, hb4⟩)
      | (go_simp; go_at_call 15; refine (last_any base n c bt A _ hb hn).mono ?_; rintro e w3 ⟨rfl, hb3⟩; have hb3' : Below wb.heap.size wb w3 := (by first | exact hb3 | exact below_of_drew hb3); have hB2 := hB.trans (hb3'.mono hB.size); have y0 := cell_below hb3' x0; have y1 := cell_below hb3' x1; have y2 := cell_below hb3' x2))
    all_goals
      go_wp2
      go_meet
      exact ⟨rfl, hB2.trans (hb4.mono hB2.size)⟩
  case rest =>
    obtain ⟨rfl, hb1⟩ := hcut
    go_wp2
    go_ret
    exact ⟨rfl, hb1⟩

set_option maxRecDepth 100000 in
theorem newer_any (base bt n c term last lo hi : Nat) (A : Option Addr) (es : List Ent) (w : World) (hs : Sl w lo hi 3 A n c (ecells es)) (hb : base < 1152921504606846976) (hn : n ≤ 1000) :
    Calls Try.prog 21 #[.agg #[.int .u64 (base : Int), .int .u64 (bt : Int), .slice A n c], .int .u64 (term : Int), .int .u64 (last : Int)] w fun e w' => e = .returned (.bool (decide (lastTerm base bt es < term ∨ (term = lastTerm base bt es ∧ base + n ≤ last)))) ∧ Below w.heap.size w w' := by
  have hL := lastTerm_any base bt n c lo _ A es (w.alloc (.cells #[.int .u64 (base : Int), .int .u64 (bt : Int), .slice A n c] 25)) (hs.alloc (by decide) _) hb hn
  generalize lastTerm base bt es = T at hL ⊢
  by_cases h1 : T < term
  · have hd : decide (T < term ∨ (term = T ∧ base + n ≤ last)) = true := decide_eq_true (.inl h1)
    rw [hd]
    go_enter Try.func21, Try.ntmps21
    go_wp2_with (go_at_call 20; refine hL.mono ?_; rintro e' w1 ⟨rfl, hb1⟩)
    go_ret
    exact ⟨rfl, below_boxed hb1⟩
  · by_cases h2 : term = T
    · subst h2
      have hd : decide (term < term ∨ (term = term ∧ base + n ≤ last)) = decide ((base : Int) + n ≤ last) := decide_eq_decide.2 ⟨fun _ => by omega, fun _ => .inr ⟨rfl, by omega⟩⟩
      rw [hd]
      go_enter Try.func21, Try.ntmps21
      go_wp2_with fail
      refine hL.mono ?_
      rintro e' w1 ⟨rfl, hb1⟩
      obtain ⟨x0, x1, x2⟩ := ((Blk.new w _ _).after hb1).c3
      go_wp2_with (go_at_call 15; refine (last_any base n c bt A _ hb hn).mono ?_; rintro e w3 ⟨rfl, hb3⟩)
      go_ret
      exact ⟨rfl, (below_boxed hb1).trans (hb3.mono (below_boxed hb1).size)⟩
    · have hd : decide (T < term ∨ (term = T ∧ base + n ≤ last)) = false := decide_eq_false (by omega)
      have hne : ((term : Int) == (T : Int)) = false := by simp; omega
      rw [hd]
      go_enter Try.func21, Try.ntmps21
      go_wp2_with (go_at_call 20; refine hL.mono ?_; rintro e' w1 ⟨rfl, hb1⟩)
      go_ret
      exact ⟨rfl, below_boxed hb1⟩
end Go.Proofs.Ytbgdepaffgeinaa
