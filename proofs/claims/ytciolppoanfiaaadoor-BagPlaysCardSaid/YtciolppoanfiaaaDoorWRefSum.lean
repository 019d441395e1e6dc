import Derived.Test.YtciolppoanfiaaaDoorWSum
namespace Go.Proofs.YtciolppoanfiaaaDoor
open Go.RowKit

theorem Crc.refBit_lt {s b : Nat} (h : s < 4294967296) : Crc.refBit s b < 4294967296 := by
  unfold Crc.refBit
  split
  · have := Nat.xor_lt_two_pow (n := 32) (x := s / 2) (y := Crc.poly) (by omega) (by decide)
    omega
  · omega
theorem Crc.refBits_lt (c n : Nat) {s : Nat} (h : s < 4294967296) : Crc.refBits c n s < 4294967296 := by
  induction n with
  | zero => exact h
  | succ n ih => exact Crc.refBit_lt ih

theorem lowbit (t x m : Nat) (ht : t < 4294967296) (hx : x < 256) : bits .xor .u32 (bits .and .u32 (t : Int) 1) (bits .and .u8 ((x : Int) / 2 ^ m) 1 % 4294967296) = (((t &&& 1) ^^^ ((x >>> m) &&& 1) : Nat) : Int) := by
  have e1 : bits .and .u32 (t : Int) 1 = ((t &&& 1 : Nat) : Int) := u32_and_nat t 1 ht (by decide)
  have e2 : (x : Int) / 2 ^ m = ((x >>> m : Nat) : Int) := by rw [Nat.shiftRight_eq_div_pow]; simp
  have l1 : x >>> m < 256 := by rw [Nat.shiftRight_eq_div_pow]; exact Nat.lt_of_le_of_lt (Nat.div_le_self _ _) hx
  have l2 : x >>> m &&& 1 ≤ 1 := Nat.and_le_right
  have l3 : t &&& 1 ≤ 1 := Nat.and_le_right
  rw [e1, e2, show (1 : Int) = ((1 : Nat) : Int) from rfl, u8_and_nat _ 1 l1 (by decide), Int.emod_eq_of_lt (by omega) (by omega), u32_xor_nat _ _ (by omega) (by omega)]
theorem halfxor (t : Nat) (ht : t < 4294967296) : bits .xor .u32 ((t : Int) / 2) 3988292384 = ((t / 2 ^^^ Crc.poly : Nat) : Int) := by
  have e1 : (t : Int) / 2 = ((t / 2 : Nat) : Int) := by omega
  rw [e1]
  exact u32_xor_nat _ _ (by omega) (by decide)

set_option maxHeartbeats 400000 in
theorem refSum_any (A : Option Addr) (n c lo hi : Nat) (xs : List UInt8) (w : World) (ha : Sl w lo hi 1 A n c (xs.map bv)) :
    Calls Tryd.prog 16 #[.slice A n c] w fun e w' => e = .returned (.int .u32 (Crc.sum xs : Nat)) ∧ w = w' := by
  have hn := ha.len
  simp only [List.length_map, Nat.mul_one] at hn
  have b1 := ha.cap
  have b2 := ha.max
  have Hn := Lib.hid hn
  clear hn
  go_enter Tryd.func16, Tryd.ntmps16
  go_wp2
  go_loop [3, 4] (fun s i => ∃ k : Nat, k ≤ n ∧ i = .int .i64 k ∧ s = .int .u32 (Crc.run 4294967295 (xs.take k) : Nat)) (fun _ i => n - (intOf i).toNat)
  case atStart => exact ⟨0, Nat.zero_le _, rfl, rfl⟩
  case round =>
    obtain ⟨k, hk, rfl, rfl⟩ := hrel
    have hs := Crc.run_lt (xs.take k) (s := 4294967295) (by decide)
    obtain ⟨s, hsd⟩ : ∃ s, Crc.run 4294967295 (xs.take k) = s := ⟨_, rfl⟩
    rw [hsd] at hs ⊢
    have Hs := Lib.hid hsd
    clear hsd
    by_cases hlt : k < n
    · obtain ⟨ad, x, rfl, hx, hcx⟩ := ha.byte hlt
      have Hx := Lib.hid hx
      clear hx ha
      have hx8 : x.toNat < 256 := x.toNat_lt
      go_wp2
      go_loop [3, 5] (fun s' j => ∃ m : Nat, m ≤ 8 ∧ j = .int .i64 m ∧ s' = .int .u32 (Crc.refBits x.toNat m s : Nat)) (fun _ j => 8 - (intOf j).toNat)
      case atStart => exact ⟨0, Nat.zero_le _, rfl, rfl⟩
      case round =>
        obtain ⟨m, hm, rfl, rfl⟩ := hrel
        have ht := Crc.refBits_lt x.toNat m hs
        obtain ⟨t, htd⟩ : ∃ t, Crc.refBits x.toNat m s = t := ⟨_, rfl⟩
        rw [htd] at ht ⊢
        have Ht := Lib.hid htd
        clear htd
        by_cases hmlt : m < 8
        · go_wp2
          · have hb : (bits .xor .u32 (bits .and .u32 (t : Int) 1) (bits .and .u8 ((x.toNat : Int) / 2 ^ m) 1 % 4294967296) == 1) = true := by assumption
            go_round
            case rel =>
              refine ⟨m + 1, by omega, by go_num, ?_⟩
              rw [lowbit t x.toNat m ht hx8] at hb
              have hb' : (t &&& 1) ^^^ ((x.toNat >>> m) &&& 1) = 1 := Int.ofNat_inj.1 (beq_iff_eq.1 hb)
              rw [halfxor t ht]
              simp only [Crc.refBits, Ht.out, Crc.refBit, hb', if_true]
            case measure => simp [intOf]; omega
          · have hb : (bits .xor .u32 (bits .and .u32 (t : Int) 1) (bits .and .u8 ((x.toNat : Int) / 2 ^ m) 1 % 4294967296) == 1) = false := by assumption
            go_round
            case rel =>
              refine ⟨m + 1, by omega, by go_num, ?_⟩
              rw [lowbit t x.toNat m ht hx8] at hb
              have hb' : ¬ (t &&& 1) ^^^ ((x.toNat >>> m) &&& 1) = 1 := by intro e; rw [e] at hb; simp at hb
              simp only [Crc.refBits, Ht.out, Crc.refBit, if_neg hb']
              go_num
            case measure => simp [intOf]; omega
        · go_wp2
          go_round
          case rel =>
            refine ⟨k + 1, by omega, by go_num, ?_⟩
            obtain ⟨hx1, hx2⟩ := List.getElem?_eq_some_iff.1 Hx.out
            have hm8 : m = 8 := by omega
            subst hm8
            rw [List.take_succ_eq_append_getElem hx1, Crc.run_snoc, Hs.out, hx2, ← Crc.refBits8 _ _ hx8, Ht.out]
          case measure => simp [intOf]; omega
    · go_wp2
      go_ret
      refine ⟨ret_int ?_, rfl⟩
      have hr := Hs.out
      rw [List.take_of_length_le (by have := Hn.out; omega)] at hr
      rw [Crc.sum, hr]
      omega
end Go.Proofs.YtciolppoanfiaaaDoor
