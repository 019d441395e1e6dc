/- The document's Has, Majority, Agrees, Numbers. -/
import Derived.Test.YtbgdepaffgeinaaElRef
import Derived.Test.YtbgdepaffgeinaaElInt
namespace Go.Proofs.Ytbgdepaffgeinaa
open Go.RowKit
set_option maxRecDepth 100000 in
set_option maxHeartbeats 3200000 in
theorem rhas_any (A : Option Addr) (n c lo hi : Nat) (xs : List Int) (m : Int) (w : World) (hs : Sl w lo hi 1 A n c (xs.map iv)) {r : Bool} (hr : decide (m ∈ xs) = r) :
    Calls Try.prog 65 #[.slice A n c, .int .i64 m] w fun e w' => e = .returned (.bool r) ∧ w = w' := by
  have hl := ilen hs
  have hcap := hs.cap
  have hmax := hs.max
  have hr : decide (m ∈ xs.drop 0) = r := hr
  have HR := Lib.hid hr
  have HS := Lib.hid hs
  have HL := Lib.hid hl
  clear hs hr hl
  go_enter Try.func65, Try.ntmps65
  go_wp2
  go_loopw [5] (fun ii wr => ∃ k : Nat, k ≤ n ∧ ii = .int .i64 k ∧ decide (m ∈ xs.drop k) = r ∧ w = wr) (fun ii _ => n - (intOf ii).toNat)
  case atStart => exact ⟨0, Nat.zero_le _, rfl, HR.out, rfl⟩
  case round =>
    obtain ⟨k, hk, rfl, hrr, rfl⟩ := hrel
    have HRR := Lib.hid hrr
    clear hrr
    by_cases hkn : k < n
    · have hkn' : (k : Int) < (n : Int) := by omega
      obtain ⟨ad, x, rfl, hx, z0⟩ := HS.out.int hkn
      have hdr : xs.drop k = x :: xs.drop (k + 1) := by
        obtain ⟨h1, h2⟩ := List.getElem?_eq_some_iff.1 hx
        rw [List.drop_eq_getElem_cons h1, h2]
      have HD := Lib.hid hdr
      clear hx hdr
      by_cases h1 : x = m
      · have hr0 : r = true := by rw [← HRR.out, HD.out]; simp [h1]
        subst hr0 h1
        go_wp2
        go_ret
        exact ⟨rfl, rfl⟩
      · have e1 : (x == m) = false := beq_false_of_ne h1
        go_wp2
        go_roundw
        case rel => exact ⟨k + 1, by omega, by first | rfl | go_num, by rw [← HRR.out, HD.out]; simp [show ¬ m = x from fun e => h1 e.symm], by first | rfl | trivial⟩
        case measure => simp [intOf]; omega
    · have hkn' : ¬ (k : Int) < (n : Int) := by omega
      have hdr : xs.drop k = [] := List.drop_eq_nil_of_le (by rw [HL.out]; omega)
      have hr0 : r = false := by rw [← HRR.out, hdr]; simp
      subst hr0
      clear hdr
      go_wp2
      go_ret
      exact ⟨rfl, rfl⟩
set_option maxRecDepth 100000 in
set_option maxHeartbeats 3200000 in
theorem rmaj_any (A : Option Addr) (n c : Nat) (w : World) (hn : n ≤ 1000) :
    Calls Try.prog 83 #[.slice A n c] w fun e w' => e = .returned (.int .i64 ((n / 2 + 1 : Nat) : Int)) ∧ w = w' := by
  obtain ⟨q, hq⟩ : ∃ q, n / 2 + 1 = q := ⟨_, rfl⟩
  rw [hq]
  go_enter Try.func83, Try.ntmps83
  go_wp2
  go_loopw [3] (fun ii wr => ∃ k : Nat, k ≤ q ∧ ii = .int .i64 k ∧ w = wr) (fun ii _ => q - (intOf ii).toNat)
  case atStart => exact ⟨0, Nat.zero_le _, rfl, rfl⟩
  case round =>
    obtain ⟨k, hk, rfl, rfl⟩ := hrel
    have hw : IntKind.i64.wrap (2 * (k : Int)) = 2 * (k : Int) := by rw [IntKind.wrap_i64]; omega
    by_cases hkq : k < q
    · have hle : 2 * (k : Int) ≤ (n : Int) := by omega
      go_wp2
      go_roundw
      case rel => exact ⟨k + 1, by omega, by first | rfl | go_num, by first | rfl | trivial⟩
      case measure => simp [intOf]; omega
    · obtain rfl : k = q := by omega
      have hle : ¬ 2 * (k : Int) ≤ (n : Int) := by omega
      go_wp2
      go_ret
      exact ⟨rfl, rfl⟩
def agr (xs ys : List Int) : Bool := decide (xs.length / 2 + 1 ≤ (xs.filter fun x => decide (x ∈ ys)).length)
theorem filter_take_succ {xs : List Int} {k : Nat} {x : Int} (p : Int → Bool) (h : xs[k]? = some x) : ((xs.take (k + 1)).filter p).length = ((xs.take k).filter p).length + (if p x then 1 else 0) := by
  obtain ⟨h1, h2⟩ := List.getElem?_eq_some_iff.1 h
  rw [List.take_add_one, h, Option.toList_some, List.filter_append, List.length_append, List.filter_cons]
  split <;> simp
set_option maxRecDepth 100000 in
set_option maxHeartbeats 3200000 in
theorem ragrees_any (A : Option Addr) (n c lo hi : Nat) (xs : List Int) (B : Option Addr) (m d lo2 hi2 : Nat) (ys : List Int) (w : World) (hs : Sl w lo hi 1 A n c (xs.map iv)) (ht : Sl w lo2 hi2 1 B m d (ys.map iv)) (hn : n ≤ 1000) {r : Bool} (hr : agr xs ys = r) :
    Calls Try.prog 66 #[.slice A n c, .slice B m d] w fun e w' => e = .returned (.bool r) ∧ w = w' := by
  have hl := ilen hs
  have HR := Lib.hid hr
  have HS := Lib.hid hs
  have HT := Lib.hid ht
  have HL := Lib.hid hl
  clear hs hr hl ht
  go_enter Try.func66, Try.ntmps66
  go_wp2_with fail
  go_loopw [5, 6] (fun qq ii wr => ∃ (k q : Nat), k ≤ n ∧ q ≤ k ∧ ii = .int .i64 k ∧ qq = .int .i64 q ∧ ((xs.take k).filter fun x => decide (x ∈ ys)).length = q ∧ w = wr) (fun _ ii _ => n - (intOf ii).toNat)
  case atStart => exact ⟨0, 0, Nat.zero_le _, Nat.le_refl _, rfl, rfl, rfl, rfl⟩
  case round =>
    obtain ⟨k, q, hk, hqk, rfl, rfl, hq, rfl⟩ := hrel
    have HQ := Lib.hid hq
    clear hq
    by_cases hkn : k < n
    · have hkn' : (k : Int) < (n : Int) := by omega
      obtain ⟨ad, x, rfl, hx, z0⟩ := HS.out.int hkn
      have HX := Lib.hid hx
      clear hx
      by_cases h1 : x ∈ ys
      · have hH := Lib.hid (rhas_any B m d lo2 hi2 ys x w HT.out (r := true) (decide_eq_true h1))
        go_wp2_with fail
        refine hH.out.mono ?_
        rintro e _ ⟨rfl, rfl⟩
        go_wp2
        go_roundw
        case rel => exact ⟨k + 1, q + 1, by omega, by omega, by first | rfl | go_num, by first | rfl | go_num, by rw [filter_take_succ _ HX.out, HQ.out, if_pos (decide_eq_true h1)], by first | rfl | trivial⟩
        case measure => simp [intOf]; omega
      · have hH := Lib.hid (rhas_any B m d lo2 hi2 ys x w HT.out (r := false) (decide_eq_false h1))
        go_wp2_with fail
        refine hH.out.mono ?_
        rintro e _ ⟨rfl, rfl⟩
        go_wp2
        go_roundw
        case rel => exact ⟨k + 1, q, by omega, by omega, by first | rfl | go_num, rfl, by rw [filter_take_succ _ HX.out, HQ.out, if_neg (by simp [h1]), Nat.add_zero], by first | rfl | trivial⟩
        case measure => simp [intOf]; omega
    · obtain rfl : k = n := by omega
      have hkn' : ¬ (k : Int) < (k : Int) := by omega
      have hr2 : decide (k / 2 + 1 ≤ q) = r := by
        have h2 := HQ.out
        rw [List.take_of_length_le (by rw [HL.out]; exact Nat.le_refl _)] at h2
        rw [← HR.out]
        unfold agr
        rw [h2, HL.out]
      have hM := Lib.hid (rmaj_any A k c w hn)
      obtain ⟨j, hj⟩ : ∃ j : Nat, k / 2 + 1 = j := ⟨_, rfl⟩
      rw [hj] at hM hr2
      go_wp2_with fail
      refine hM.out.mono ?_
      rintro e _ ⟨rfl, rfl⟩
      go_wp2
      go_ret
      exact ⟨rfl, rfl⟩
set_option maxRecDepth 100000 in
set_option maxHeartbeats 3200000 in
/-- two rows of the same ints -/
theorem rnumbers_any (A : Option Addr) (n c lo hi : Nat) (xs : List Int) (B : Option Addr) (d lo2 hi2 : Nat) (w : World) (hs : Sl w lo hi 1 A n c (xs.map iv)) (ht : Sl w lo2 hi2 1 B n d (xs.map iv)) :
    Calls Try.prog 41 #[.slice A n c, .slice B n d] w fun e w' => e = .returned (.bool true) ∧ Below w.heap.size w w' := by
  have hl := ilen hs
  have hcap := hs.cap
  have hmax := hs.max
  have HS := Lib.hid hs
  have HT := Lib.hid ht
  have HL := Lib.hid hl
  clear hs hl ht
  go_enter Try.func41, Try.ntmps41
  go_wp2_with fail
  go_loopw [5] (fun ii wr => ∃ k : Nat, k ≤ n ∧ ii = .int .i64 k ∧ Below w.heap.size w wr) (fun ii _ => n - (intOf ii).toNat)
  case atStart => exact ⟨0, Nat.zero_le _, rfl, Below.refl _ _⟩
  case round =>
    obtain ⟨k, hk, rfl, hb⟩ := hrel
    by_cases hkn : k < n
    · have hkn' : (k : Int) < (n : Int) := by omega
      obtain ⟨ad, x, rfl, hx, z0⟩ := (HS.out.after (by decide) hb).int hkn
      obtain ⟨ad2, y, rfl, hy, z1⟩ := (HT.out.after (by decide) hb).int hkn
      obtain rfl : x = y := Option.some.inj (hx.symm.trans hy)
      clear hx hy
      have HB := Lib.hid hb
      clear hb
      go_wp2
      go_quiet (fail)
      go_wp2
      go_roundw
      case rel => exact ⟨k + 1, by omega, by first | rfl | go_num, below_drewN HB.out _⟩
      case measure => simp [intOf]; omega
    · have hkn' : ¬ (k : Int) < (n : Int) := by omega
      have HB := Lib.hid hb
      clear hb
      go_wp2
      go_ret
      exact ⟨rfl, HB.out⟩
end Go.Proofs.Ytbgdepaffgeinaa
