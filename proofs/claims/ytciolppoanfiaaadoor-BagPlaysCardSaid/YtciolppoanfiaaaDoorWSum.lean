import Derived.Test.YtciolppoanfiaaaDoorProg
import Derived.Test.YtciolppoanfiaaaDoorZBase
import Derived.Test.YtciolppoanfiaaaDoorCrc
import Derived.Deep.QuietTactic
import Derived.BigQuiet
namespace Go.Proofs.YtciolppoanfiaaaDoor
open Go.RowKit

def Tab (w : World) : Prop := ∀ i, i < 16 → w.cell? ⟨0, i, none⟩ = some (.int .u32 ((Crc.table.getD i 0 : Nat) : Int))
theorem Tab.below {B : Nat} {w w' : World} (h : Tab w) (hb : Below B w w') (hB : 0 < B) : Tab w' := fun i hi => (hb.cell (p := ⟨_, i, none⟩) hB).trans (h i hi)
theorem Tab.drewN {w : World} (h : Tab w) (n : Nat) : Tab (w.drewN n) := h

theorem ret_int {k : IntKind} {a b : Int} (h : a = b) : Ending.returned (.int k a) = .returned (.int k b) := by rw [h]
theorem and15 (s : Nat) : s &&& 15 < 16 := by have := Nat.and_lt_two_pow s (show 15 < 2 ^ 4 by decide); omega
theorem Crc.nib_lt {s : Nat} (h : s < 4294967296) : Crc.nib s < 4294967296 := by rw [Crc.nib_eq]; exact Crc.stpN_lt 4 h
theorem tab_lt (i : Nat) (h : i < 16) : Crc.table.getD i 0 < 4294967296 := by
  have : ∀ i, i < 16 → Crc.table.getD i 0 < 4294967296 := by decide
  exact this i h
theorem nib_word (s : Nat) (h : s < 4294967296) : bits .xor .u32 ((s : Int) / 16) ((Crc.table.getD (s &&& 15) 0 : Nat) : Int) = (Crc.nib s : Nat) := by
  have e : (s : Int) / 16 = ((s / 16 : Nat) : Int) := by omega
  rw [e, u32_xor_nat _ _ (by omega) (tab_lt _ (and15 s))]
  unfold Crc.nib
  rw [Nat.shiftRight_eq_div_pow]

set_option maxHeartbeats 400000 in
theorem sum_any (A : Option Addr) (n c lo hi : Nat) (xs : List UInt8) (w : World) (ha : Sl w lo hi 1 A n c (xs.map bv)) (hT : Tab w) :
    Calls Tryd.prog 13 #[.slice A n c] w fun e w' => e = .returned (.int .u32 (Crc.sum xs : Nat)) ∧ w = w' := by
  have hn := ha.len
  simp only [List.length_map, Nat.mul_one] at hn
  have b1 := ha.cap
  have b2 := ha.max
  have Hn := Lib.hid hn
  clear hn
  go_enter Tryd.func13, Tryd.ntmps13
  go_wp2
  go_loop [3, 8] (fun s i => ∃ k : Nat, k ≤ n ∧ i = .int .i64 k ∧ s = .int .u32 (Crc.run 4294967295 (xs.take k) : Nat)) (fun _ i => n - (intOf i).toNat)
  case atStart => exact ⟨0, Nat.zero_le _, rfl, rfl⟩
  case round =>
    obtain ⟨k, hk, rfl, rfl⟩ := hrel
    have hs := Crc.run_lt (xs.take k) (s := 4294967295) (by decide)
    obtain ⟨s, hsd⟩ : ∃ s, Crc.run 4294967295 (xs.take k) = s := ⟨_, rfl⟩
    rw [hsd] at hs ⊢
    have Hs := Lib.hid hsd
    clear hsd
    by_cases hlt : k < n
    · obtain ⟨ad, x, rfl, hx, hcx⟩ := ha.byte hlt
      have Hx := Lib.hid hx
      clear hx ha
      have hx8 : x.toNat < 256 := x.toNat_lt
      have hs1 : s ^^^ x.toNat < 4294967296 := by have := Nat.xor_lt_two_pow (n := 32) (x := s) (y := x.toNat) (by omega) (by omega); omega
      have e0 : bits .xor .u32 (s : Int) (x.toNat : Int) = ((s ^^^ x.toNat : Nat) : Int) := u32_xor_nat _ _ hs (by omega)
      obtain ⟨s1, hs1d⟩ : ∃ s1, s ^^^ x.toNat = s1 := ⟨_, rfl⟩
      rw [hs1d] at hs1 e0
      have Hs1 := Lib.hid hs1d
      clear hs1d
      have e1 : bits .and .u32 (s1 : Int) 15 = ((s1 &&& 15 : Nat) : Int) := u32_and_nat s1 15 hs1 (by decide)
      have c1 := hT _ (and15 s1)
      have e2 := nib_word s1 hs1
      have hs2 := Crc.nib_lt hs1
      have r1 := and15 s1
      obtain ⟨s2, hs2d⟩ : ∃ s2, Crc.nib s1 = s2 := ⟨_, rfl⟩
      rw [hs2d] at hs2 e2
      have Hs2 := Lib.hid hs2d
      clear hs2d
      generalize Crc.table.getD (s1 &&& 15) 0 = t1 at c1 e2
      have e3 : bits .and .u32 (s2 : Int) 15 = ((s2 &&& 15 : Nat) : Int) := u32_and_nat s2 15 hs2 (by decide)
      have c2 := hT _ (and15 s2)
      have e4 := nib_word s2 hs2
      have r2 := and15 s2
      generalize Crc.table.getD (s2 &&& 15) 0 = t2 at c2 e4
      obtain ⟨s3, hs3d⟩ : ∃ s3, Crc.nib s2 = s3 := ⟨_, rfl⟩
      rw [hs3d] at e4
      have Hs3 := Lib.hid hs3d
      clear hs3d
      go_wp2
      go_round
      case rel =>
        refine ⟨k + 1, by omega, by go_num, ?_⟩
        obtain ⟨hx1, hx2⟩ := List.getElem?_eq_some_iff.1 Hx.out
        rw [List.take_succ_eq_append_getElem hx1, Crc.run_snoc, Hs.out, hx2, ← Crc.tabByte_eq, Crc.tabByte, Hs1.out, Hs2.out, Hs3.out]
      case measure => simp [intOf]; omega
    · go_wp2
      go_ret
      refine ⟨ret_int ?_, rfl⟩
      have hm : IntKind.u32.max = ((4294967295 : Nat) : Int) := by decide
      have hr := Hs.out
      rw [List.take_of_length_le (by have := Hn.out; omega)] at hr
      rw [hm, u32_xor_nat _ _ (by decide) hs, ← Crc.not32 s hs, Crc.sum, hr]
end Go.Proofs.YtciolppoanfiaaaDoor

