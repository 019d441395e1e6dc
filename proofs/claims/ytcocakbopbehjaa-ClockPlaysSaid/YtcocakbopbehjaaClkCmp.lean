/- cmp.Compare, cmp.Or, the timers' order. -/
import Derived.Test.YtcocakbopbehjaaClkMem
import Derived.Sort.Grow
namespace Go.Proofs.Ytcocakbopbehjaa
open Go.RowKit Go.Sort
def cmpZ (x y : Int) : Int := if x < y then -1 else if y < x then 1 else 0
set_option maxRecDepth 100000 in
theorem nanU_any (x : Int) (w : World) : Calls Try.prog 53 #[.int .u64 x] w fun e w' => e = .returned (.bool false) ∧ w = w' := by
  go_enter Try.func53, Try.ntmps53
  go_wp2
  go_ret
  exact ⟨by first | rfl | simp, rfl⟩
set_option maxRecDepth 100000 in
theorem nanI_any (x : Int) (w : World) : Calls Try.prog 54 #[.int .i64 x] w fun e w' => e = .returned (.bool false) ∧ w = w' := by
  go_enter Try.func54, Try.ntmps54
  go_wp2
  go_ret
  exact ⟨by first | rfl | simp, rfl⟩
set_option maxRecDepth 100000 in
theorem cmpU_any (x y : Int) (w : World) : Calls Try.prog 41 #[.int .u64 x, .int .u64 y] w fun e w' => e = .returned (.int .i64 (cmpZ x y)) ∧ w = w' := by
  unfold cmpZ
  rcases Int.lt_trichotomy x y with h | h | h
  · rw [if_pos h]
    go_enter Try.func41, Try.ntmps41
    go_wp2_with (go_at_call 53; refine (nanU_any _ _).mono ?_; rintro e _ ⟨rfl, rfl⟩)
    go_ret
    exact ⟨rfl, rfl⟩
  · subst h
    rw [if_neg (Int.lt_irrefl x), if_neg (Int.lt_irrefl x)]
    go_enter Try.func41, Try.ntmps41
    go_wp2_with (go_at_call 53; refine (nanU_any _ _).mono ?_; rintro e _ ⟨rfl, rfl⟩)
    go_ret
    exact ⟨rfl, rfl⟩
  · have h' : ¬ x < y := by omega
    rw [if_neg h', if_pos h]
    go_enter Try.func41, Try.ntmps41
    go_wp2_with (go_at_call 53; refine (nanU_any _ _).mono ?_; rintro e _ ⟨rfl, rfl⟩)
    go_ret
    exact ⟨rfl, rfl⟩
set_option maxRecDepth 100000 in
theorem cmpI_any (x y : Int) (w : World) : Calls Try.prog 42 #[.int .i64 x, .int .i64 y] w fun e w' => e = .returned (.int .i64 (cmpZ x y)) ∧ w = w' := by
  unfold cmpZ
  rcases Int.lt_trichotomy x y with h | h | h
  · rw [if_pos h]
    go_enter Try.func42, Try.ntmps42
    go_wp2_with (go_at_call 54; refine (nanI_any _ _).mono ?_; rintro e _ ⟨rfl, rfl⟩)
    go_ret
    exact ⟨rfl, rfl⟩
  · subst h
    rw [if_neg (Int.lt_irrefl x), if_neg (Int.lt_irrefl x)]
    go_enter Try.func42, Try.ntmps42
    go_wp2_with (go_at_call 54; refine (nanI_any _ _).mono ?_; rintro e _ ⟨rfl, rfl⟩)
    go_ret
    exact ⟨rfl, rfl⟩
  · have h' : ¬ x < y := by omega
    rw [if_neg h', if_pos h]
    go_enter Try.func42, Try.ntmps42
    go_wp2_with (go_at_call 54; refine (nanI_any _ _).mono ?_; rintro e _ ⟨rfl, rfl⟩)
    go_ret
    exact ⟨rfl, rfl⟩
def orZ (a b : Int) : Int := if a = 0 then b else a
set_option maxRecDepth 100000 in
set_option maxHeartbeats 800000 in
theorem or_any (a b : Int) (g : Nat) (w : World) (h0 : w.cell? ⟨g, 0, none⟩ = some (.int .i64 a)) (h1 : w.cell? ⟨g, 1, none⟩ = some (.int .i64 b)) : Calls Try.prog 40 #[.slice (some ⟨g, 0, none⟩) 2 2] w fun e w' => e = .returned (.int .i64 (orZ a b)) ∧ w = w' := by
  unfold orZ
  go_enter Try.func40, Try.ntmps40
  go_wp2
  go_loopw [5, 8] (fun _ i wr => ∃ k : Nat, k ≤ 2 ∧ i = .int .i64 k ∧ w = wr ∧ (0 < k → a = 0) ∧ (1 < k → b = 0)) (fun _ i _ => 2 - (intOf i).toNat)
  case atStart => exact ⟨0, by omega, rfl, rfl, by omega, by omega⟩
  case round =>
    obtain ⟨k, hk, rfl, rfl, ka, kb⟩ := hrel
    have HA := Lib.hid ka
    have HB := Lib.hid kb
    clear ka kb
    have hk3 : k = 0 ∨ k = 1 ∨ k = 2 := by omega
    rcases hk3 with rfl | rfl | rfl
    · by_cases ha : a = 0
      · subst ha
        go_wp2
        go_roundw
        case rel => exact ⟨1, by omega, by first | rfl | go_num, by simp, by simp, by simp⟩
        case measure => simp [intOf]
      · have hb : (a != 0) = true := bne_iff_ne.2 ha
        have hb2 : (a == 0) = false := beq_eq_false_iff_ne.2 ha
        go_wp2
        go_ret
        exact ⟨by simp [ha], rfl⟩
    · have ha := HA.out (by omega)
      subst ha
      by_cases hb0 : b = 0
      · subst hb0
        go_wp2
        go_roundw
        case rel => exact ⟨2, by omega, by first | rfl | go_num, by simp, by simp, by simp⟩
        case measure => simp [intOf]
      · have hb : (b != 0) = true := bne_iff_ne.2 hb0
        have hb2 : (b == 0) = false := beq_eq_false_iff_ne.2 hb0
        go_wp2
        go_ret
        exact ⟨by simp, rfl⟩
    · have ha := HA.out (by omega)
      have hb := HB.out (by omega)
      subst ha hb
      go_wp2
      go_ret
      exact ⟨by simp, rfl⟩
end Go.Proofs.Ytcocakbopbehjaa
