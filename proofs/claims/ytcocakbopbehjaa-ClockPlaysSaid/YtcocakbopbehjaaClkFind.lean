/- slices.IndexFunc at timers, with each of the two function values; cmp. -/
import Derived.Test.YtcocakbopbehjaaClkMem
namespace Go.Proofs.Ytcocakbopbehjaa
open Go.RowKit
set_option maxRecDepth 100000 in
theorem fid_any (id : Int) (B : Nat) (t : Tm) (W : World) (hB : Blk W B 3 #[.int .i64 id]) {b : Bool} (hb : decide (t.1 = id) = b) :
    Calls Try.prog 37 #[tmv t, .pointer (some ⟨B, 0, none⟩)] W fun e w' => e = .returned (.bool b) ∧ Below W.heap.size W w' := by
  obtain ⟨i, a⟩ := t
  have c := hB.c1
  have hl := hB.lt
  have hne : B ≠ W.heap.size := by omega
  have hb' : (i == id) = b := by rw [← hb]; rfl
  clear hb hB
  simp only [tmv]
  go_enter Try.func37, Try.ntmps37
  go_wp2
  go_ret
  exact ⟨by first | rfl | simp [hb'], (Below.refl _ W).alloc (Nat.le_refl _) _⟩
set_option maxRecDepth 100000 in
theorem late_any (nb now : Nat) (v : Value) (pz : Bool) (t : Tm) (W : World) (hB : Blk W nb 58 #[.int .u64 (now : Int), v, .bool pz]) {b : Bool} (hb : decide (t.2 ≤ now) = b) :
    Calls Try.prog 27 #[.pointer (some ⟨nb, 0, none⟩), tmv t] W fun e w' => e = .returned (.bool b) ∧ Below W.heap.size W w' := by
  obtain ⟨i, a⟩ := t
  obtain ⟨c, -, -⟩ := hB.c3
  have hl := hB.lt
  have hne : nb ≠ W.heap.size := by omega
  have hb' : decide ((a : Int) ≤ (now : Int)) = b := by rw [← hb]; exact decide_eq_decide.2 (by omega)
  clear hb hB
  simp only [tmv]
  go_enter Try.func27, Try.ntmps27
  go_wp2
  go_quiet (fail)
  go_wp2
  go_ret
  exact ⟨by first | rfl | simp [← hb'], below_drewN ((Below.refl _ W).alloc (Nat.le_refl _) _) _⟩
set_option maxRecDepth 100000 in
set_option maxHeartbeats 1600000 in
/-- where the first stands at which p holds -/
theorem idxFid_any (A : Option Addr) (n c lo hi : Nat) (ts : List Tm) (p : Tm → Bool) (gb : Nat) (w : World) (hs : Sl w lo hi 2 A n c (tcells ts)) (hn : n ≤ 1000)
    (hp : ∀ (W : World) (t : Tm), Below w.heap.size w W → Calls Try.prog 37 #[tmv t, .pointer (some ⟨gb, 0, none⟩)] W fun e w' => e = .returned (.bool (p t)) ∧ Below W.heap.size W w') :
    Calls Try.prog 36 #[.slice A n c, .func (.func 37) #[] #[.pointer (some ⟨gb, 0, none⟩)]] w fun e w' => Below w.heap.size w w' ∧
      ((e = .returned (.int .i64 (-1)) ∧ ∀ t ∈ ts, p t = false) ∨ ∃ k, k < n ∧ e = .returned (.int .i64 (k : Int)) ∧ (∃ t, ts[k]? = some t ∧ p t = true) ∧ ∀ j t, j < k → ts[j]? = some t → p t = false) := by
  have hlen : ts.length = n := by have := hs.len; rw [tcells_len] at this; omega
  have HP := Lib.hid hp
  have HL := Lib.hid hlen
  clear hp hlen
  go_enter Try.func36, Try.ntmps36
  go_wp2
  go_loopw [5, 8] (fun _ i wr => ∃ k : Nat, k ≤ n ∧ i = .int .i64 k ∧ Below w.heap.size w wr ∧ ∀ j t, j < k → ts[j]? = some t → p t = false) (fun _ i _ => n - (intOf i).toNat)
  case atStart => exact ⟨0, Nat.zero_le _, rfl, Below.refl _ _, fun j t hj => absurd hj (Nat.not_lt_zero _)⟩
  case round =>
    obtain ⟨k, hk, rfl, hbr, hall⟩ := hrel
    have HA := Lib.hid hall
    clear hall
    by_cases hlt : k < n
    · have hs' := hs.after (by decide) hbr
      obtain ⟨ad, t, rfl, ht, x0, x1⟩ := hs'.tm hlt
      have hC := HP.out wr t hbr
      have HC := Lib.hid hC
      have HT := Lib.hid ht
      clear hC ht hs'
      obtain ⟨ti, ta⟩ := t
      simp only at x0 x1
      go_wp2_with fail
      refine HC.out.mono ?_
      rintro e w2 ⟨rfl, hb2⟩
      have hb3 := hbr.trans (hb2.mono hbr.size)
      by_cases hpt : p (ti, ta) = true
      · simp only [hpt]
        go_wp2
        go_ret
        exact ⟨hb3, .inr ⟨k, hlt, rfl, ⟨_, HT.out, hpt⟩, HA.out⟩⟩
      · have hpf : p (ti, ta) = false := by simpa using hpt
        simp only [hpf]
        go_wp2
        go_roundw
        case rel =>
          refine ⟨k + 1, by omega, by first | rfl | go_num, hb3, fun j t hj ht => ?_⟩
          by_cases e : j = k
          · subst e
            rw [HT.out] at ht
            injection ht with ht
            rw [← ht]; exact hpf
          · exact HA.out j t (by omega) ht
        case measure => simp [intOf]; omega
    · obtain rfl : k = n := by omega
      go_wp2
      go_ret
      refine ⟨hbr, .inl ⟨rfl, fun t ht => ?_⟩⟩
      obtain ⟨j, hj⟩ := List.getElem?_of_mem ht
      exact HA.out j t (by rw [← HL.out]; exact (List.getElem?_eq_some_iff.1 hj).1) hj
set_option maxRecDepth 100000 in
set_option maxHeartbeats 1600000 in
/-- where the first stands at which p holds -/
theorem idxLate_any (A : Option Addr) (n c lo hi : Nat) (ts : List Tm) (p : Tm → Bool) (gb : Nat) (w : World) (hs : Sl w lo hi 2 A n c (tcells ts)) (hn : n ≤ 1000)
    (hp : ∀ (W : World) (t : Tm), Below w.heap.size w W → Calls Try.prog 27 #[.pointer (some ⟨gb, 0, none⟩), tmv t] W fun e w' => e = .returned (.bool (p t)) ∧ Below W.heap.size W w') :
    Calls Try.prog 36 #[.slice A n c, .func (.func 27) #[.pointer (some ⟨gb, 0, none⟩)] #[]] w fun e w' => Below w.heap.size w w' ∧
      ((e = .returned (.int .i64 (-1)) ∧ ∀ t ∈ ts, p t = false) ∨ ∃ k, k < n ∧ e = .returned (.int .i64 (k : Int)) ∧ (∃ t, ts[k]? = some t ∧ p t = true) ∧ ∀ j t, j < k → ts[j]? = some t → p t = false) := by
  have hlen : ts.length = n := by have := hs.len; rw [tcells_len] at this; omega
  have HP := Lib.hid hp
  have HL := Lib.hid hlen
  clear hp hlen
  go_enter Try.func36, Try.ntmps36
  go_wp2
  go_loopw [5, 8] (fun _ i wr => ∃ k : Nat, k ≤ n ∧ i = .int .i64 k ∧ Below w.heap.size w wr ∧ ∀ j t, j < k → ts[j]? = some t → p t = false) (fun _ i _ => n - (intOf i).toNat)
  case atStart => exact ⟨0, Nat.zero_le _, rfl, Below.refl _ _, fun j t hj => absurd hj (Nat.not_lt_zero _)⟩
  case round =>
    obtain ⟨k, hk, rfl, hbr, hall⟩ := hrel
    have HA := Lib.hid hall
    clear hall
    by_cases hlt : k < n
    · have hs' := hs.after (by decide) hbr
      obtain ⟨ad, t, rfl, ht, x0, x1⟩ := hs'.tm hlt
      have hC := HP.out wr t hbr
      have HC := Lib.hid hC
      have HT := Lib.hid ht
      clear hC ht hs'
      obtain ⟨ti, ta⟩ := t
      simp only at x0 x1
      go_wp2_with fail
      refine HC.out.mono ?_
      rintro e w2 ⟨rfl, hb2⟩
      have hb3 := hbr.trans (hb2.mono hbr.size)
      by_cases hpt : p (ti, ta) = true
      · simp only [hpt]
        go_wp2
        go_ret
        exact ⟨hb3, .inr ⟨k, hlt, rfl, ⟨_, HT.out, hpt⟩, HA.out⟩⟩
      · have hpf : p (ti, ta) = false := by simpa using hpt
        simp only [hpf]
        go_wp2
        go_roundw
        case rel =>
          refine ⟨k + 1, by omega, by first | rfl | go_num, hb3, fun j t hj ht => ?_⟩
          by_cases e : j = k
          · subst e
            rw [HT.out] at ht
            injection ht with ht
            rw [← ht]; exact hpf
          · exact HA.out j t (by omega) ht
        case measure => simp [intOf]; omega
    · obtain rfl : k = n := by omega
      go_wp2
      go_ret
      refine ⟨hbr, .inl ⟨rfl, fun t ht => ?_⟩⟩
      obtain ⟨j, hj⟩ := List.getElem?_of_mem ht
      exact HA.out j t (by rw [← HL.out]; exact (List.getElem?_eq_some_iff.1 hj).1) hj
end Go.Proofs.Ytcocakbopbehjaa
