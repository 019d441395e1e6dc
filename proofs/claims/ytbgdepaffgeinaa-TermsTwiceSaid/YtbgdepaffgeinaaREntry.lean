import Derived.Test.YtbgdepaffgeinaaRTerm
namespace Go.Proofs.Ytbgdepaffgeinaa
open Go.RowKit

set_option maxRecDepth 100000 in
set_option maxHeartbeats 800000 in
theorem rentry_any (base bt n c i lo hi : Nat) (A : Option Addr) (es : List Ent) (w : World) (hs : Sl w lo hi 3 A n c (ecells es)) (hb : base < 1152921504606846976) (hn : n ≤ 1000) :
    Calls Try.prog 19 #[.agg #[.int .u64 (base : Int), .int .u64 (bt : Int), .slice A n c], .int .u64 (i : Int)] w fun e w' => e = .returned (.tuple #[(entAt base es i).v, .bool (decide (base < i ∧ i ≤ base + n))]) ∧ Below w.heap.size w w' := by
  have hl : es.length = n := by have := hs.len; rw [ecells_len] at this; omega
  obtain ⟨d, hdd⟩ : ∃ d, decide (base < i ∧ i ≤ base + n) = d := ⟨_, rfl⟩
  obtain ⟨T, hTT⟩ : ∃ T, (entAt base es i) = T := ⟨_, rfl⟩
  rw [hdd, hTT]
  have HD := Lib.hid hdd
  have HT := Lib.hid hTT
  clear hdd hTT
  have hcap := hs.cap
  have hmax := hs.max
  have D1 := ((Below.refl _ w).alloc (Nat.le_refl _) (.cells #[.int .u64 (base : Int), .int .u64 (bt : Int), .slice A n c] 28)).alloc (by simp) (.cells #[.int .u64 0, .int .i64 0, .slice none 0 0] 35)
  have hsb := hs.after (by decide) D1
  have B1 := (Blk.new w 28 #[.int .u64 (base : Int), .int .u64 (bt : Int), .slice A n c]).alloc (.cells #[.int .u64 0, .int .i64 0, .slice none 0 0] 35)
  have B2 := Blk.new (w.alloc (.cells #[.int .u64 (base : Int), .int .u64 (bt : Int), .slice A n c] 28)) 35 #[.int .u64 0, .int .i64 0, .slice none 0 0]
  simp only [alloc_size] at B2
  obtain ⟨b0, b1, b2⟩ := B1.c3
  obtain ⟨y0, y1, y2⟩ := B2.c3
  have z0 := B2.frozen 0
  have z1 := B2.frozen 1
  have z2 := B2.frozen 2
  go_enter Try.func19, Try.ntmps19
  go_wp2
  go_loop [6] (fun s => ∃ k : Nat, k ≤ n ∧ s = .int .i64 k ∧ ¬ (base < i ∧ i ≤ base + k)) (fun s => n - (intOf s).toNat)
  case atStart => exact ⟨0, Nat.zero_le _, rfl, by omega⟩
  case round =>
    obtain ⟨k, hk, rfl, hno⟩ := hrel
    by_cases hlt : k < n
    · obtain ⟨ad, e, rfl, he, c0, c1, c2⟩ := hsb.ent hlt
      by_cases hik : base + 1 + k = i
      · have hd : decide (base < i ∧ i ≤ base + n) = true := decide_eq_true ⟨by omega, by omega⟩
        have hee : entAt base es i = e := entAt_in (by omega) (by rw [← he]; congr 1; omega)
        have heq : (((base : Int) + 1 + (k : Int)) == (i : Int)) = true := by simp; omega
        go_wp2
        refine bodyPost_ret (v := .tuple #[.agg #[(.int .u64 (e.t : Int)), (.int .i64 e.k), (.slice e.A e.l.length e.c)], .bool true]) (by simp [results, Try.results19, go_sem]) rfl ⟨?_, ((Below.refl _ w).alloc (Nat.le_refl _) _).alloc (by simp) _⟩
        rw [← HD.out, ← HT.out, hd, hee]
        rfl
      · have heq : (((base : Int) + 1 + (k : Int)) == (i : Int)) = false := by simp; omega
        go_wp2
        go_round
        case rel => exact ⟨k + 1, by omega, by go_num, by omega⟩
        case measure => simp [intOf]; omega
    · have hd : decide (base < i ∧ i ≤ base + n) = false := decide_eq_false (by omega)
      have hee : entAt base es i = Ent.zero := entAt_out (by omega)
      go_wp2
      refine bodyPost_ret (v := .tuple #[.agg #[(.int .u64 0), (.int .i64 0), (.slice none 0 0)], .bool false]) (by simp [results, Try.results19, go_sem]) rfl ⟨?_, ((Below.refl _ w).alloc (Nat.le_refl _) _).alloc (by simp) _⟩
      rw [← HD.out, ← HT.out, hd, hee]
      rfl
end Go.Proofs.Ytbgdepaffgeinaa
