import Derived.Test.YtbgdepaffgeinaaRLast
namespace Go.Proofs.Ytbgdepaffgeinaa
open Go.RowKit

set_option maxRecDepth 100000 in
set_option maxHeartbeats 800000 in
theorem rterm_any (base bt n c i lo hi : Nat) (A : Option Addr) (es : List Ent) (w : World) (hs : Sl w lo hi 3 A n c (ecells es)) (hb : base < 1152921504606846976) (hn : n ≤ 1000) :
    Calls Try.prog 17 #[.agg #[.int .u64 (base : Int), .int .u64 (bt : Int), .slice A n c], .int .u64 (i : Int)] w fun e w' => e = .returned (.tuple #[.int .u64 (termAt base bt es i : Nat), .bool (decide (base ≤ i ∧ i ≤ base + n))]) ∧ Below w.heap.size w w' := by
  have hl : es.length = n := by have := hs.len; rw [ecells_len] at this; omega
  by_cases h : i = base
  · subst h
    have hd : decide (i ≤ i ∧ i ≤ i + n) = true := decide_eq_true ⟨Nat.le_refl _, by omega⟩
    have ht : termAt i bt es i = bt := by simp [termAt]
    rw [hd, ht]
    go_enter Try.func17, Try.ntmps17
    go_wp2
    go_ret2
    exact ⟨rfl, (Below.refl _ _).alloc (Nat.le_refl _) _⟩
  · have hd0 : decide (base ≤ i ∧ i ≤ base + n) = decide (base < i ∧ i ≤ base + n) := decide_eq_decide.2 ⟨fun _ => by omega, fun _ => by omega⟩
    have ht : termAt base bt es i = (entAt base es i).t := by simp [termAt, h]
    rw [hd0, ht]
    clear hd0 ht
    obtain ⟨d, hdd⟩ : ∃ d, decide (base < i ∧ i ≤ base + n) = d := ⟨_, rfl⟩
    obtain ⟨T, hTT⟩ : ∃ T, (entAt base es i).t = T := ⟨_, rfl⟩
    rw [hdd, hTT]
    have HD := Lib.hid hdd
    have HT := Lib.hid hTT
    clear hdd hTT
    have hne : ((i : Int) == (base : Int)) = false := by simp; omega
    have hcap := hs.cap
    have hmax := hs.max
    have hsb := hs.alloc (by decide) (.cells #[.int .u64 (base : Int), .int .u64 (bt : Int), .slice A n c] 28)
    obtain ⟨b0, b1, b2⟩ := (Blk.new w 28 #[.int .u64 (base : Int), .int .u64 (bt : Int), .slice A n c]).c3
    go_enter Try.func17, Try.ntmps17
    go_wp2
    go_loop [6] (fun s => ∃ k : Nat, k ≤ n ∧ s = .int .i64 k ∧ ¬ (base < i ∧ i ≤ base + k)) (fun s => n - (intOf s).toNat)
    case atStart => exact ⟨0, Nat.zero_le _, rfl, by omega⟩
    case round =>
      obtain ⟨k, hk, rfl, hno⟩ := hrel
      by_cases hlt : k < n
      · obtain ⟨ad, e, rfl, he, c0, c1, c2⟩ := hsb.ent hlt
        by_cases hik : base + 1 + k = i
        · have hd : decide (base < i ∧ i ≤ base + n) = true := decide_eq_true ⟨by omega, by omega⟩
          have hee : entAt base es i = e := entAt_in (by omega) (by rw [← he]; congr 1; omega)
          have heq : (((base : Int) + 1 + (k : Int)) == (i : Int)) = true := by simp; omega
          go_wp2
          go_ret2
          rw [← HD.out, ← HT.out, hd, hee]
          exact ⟨rfl, (Below.refl _ _).alloc (Nat.le_refl _) _⟩
        · have heq : (((base : Int) + 1 + (k : Int)) == (i : Int)) = false := by simp; omega
          go_wp2
          go_round
          case rel => exact ⟨k + 1, by omega, by go_num, by omega⟩
          case measure => simp [intOf]; omega
      · have hd : decide (base < i ∧ i ≤ base + n) = false := decide_eq_false (by omega)
        have hee : entAt base es i = Ent.zero := entAt_out (by omega)
        go_wp2
        go_ret2
        rw [← HD.out, ← HT.out, hd, hee]
        exact ⟨rfl, (Below.refl _ _).alloc (Nat.le_refl _) _⟩
end Go.Proofs.Ytbgdepaffgeinaa
