import Derived.Test.YtciolppoanfiaaaDoorZBase
import Derived.Test.YtciolppoanfiaaaDoorWClone
import Derived.Deep.RegionLaw
namespace Go.Proofs.YtciolppoanfiaaaDoor
open Go.RowKit

/-- A number's bytes, the lowest first. -/
def num (n : Nat) : Nat → List UInt8
  | 0 => []
  | k + 1 => num n k ++ [UInt8.ofNat (n >>> (8 * k))]
theorem num_len (n k : Nat) : (num n k).length = k := by
  induction k with
  | zero => rfl
  | succ k ih => simp [num, ih]
theorem shr_byte (n k : Nat) : ((n : Int) / 2 ^ (8 * k)) % 256 = ((UInt8.ofNat (n >>> (8 * k))).toNat : Int) := by
  rw [UInt8.toNat_ofNat', Nat.shiftRight_eq_div_pow]
  simp

set_option maxRecDepth 100000 in
set_option maxHeartbeats 1600000 in
theorem wnum_any (g n N size : Nat) (v : Value) (xs : List Value) (w : World) (hb : Blk w g 73 #[v]) (hown : w.ownsRow (g + 1) 5 1 v n xs)
    (_hN : N < 18446744073709551616) (hs : 1 ≤ size) (hs8 : size ≤ 8) (hn : n + size ≤ 1000000) :
    Calls Tryd.prog 46 #[.pointer (some ⟨g, 0, none⟩), .int .u64 (N : Int), .int .i64 (size : Int)] w fun e w' =>
      e = .returned (.tuple #[]) ∧ ∃ v', Blk w' g 73 #[v'] ∧ w'.ownsRow (g + 1) 5 1 v' (n + size) (xs ++ (num N size).map bv) ∧ Below g w w' := by
  obtain ⟨i0, hi0, hz0, hz1, hz2⟩ := info_parts u8_info
  have t1 : decide ((size : Int) < 1) = false := by simp; omega
  have t2 : decide ((8 : Int) < size) = false := by simp; omega
  go_enter Tryd.func46, Tryd.ntmps46
  go_wp2
  go_loopw [14] (fun i wr => ∃ k : Nat, k ≤ size ∧ i = .int .i64 k ∧ ∃ v', Blk wr g 73 #[v'] ∧ wr.ownsRow (g + 1) 5 1 v' (n + k) (xs ++ (num N k).map bv) ∧ Below g w wr) (fun i _ => size - (intOf i).toNat)
  case atStart => exact ⟨0, Nat.zero_le _, rfl, v, hb, by simpa [num] using hown, Below.refl _ _⟩
  case round =>
    obtain ⟨k, hk, rfl, v', hbr, hownr, hbel⟩ := hrel
    clear hb hown t1 t2
    by_cases hlt : k < size
    · have hbsz := hbr.lt
      have h8 : IntKind.i64.wrap (8 * (k : Int)) = ((8 * k : Nat) : Int) := by rw [IntKind.wrap_i64]; omega
      have hc := hbr.cell 0
      have hf := hbr.frozen 0
      simp only [List.getElem?_toArray, List.getElem?_cons_zero] at hc
      obtain ⟨b, hbd⟩ : ∃ b, UInt8.ofNat (N >>> (8 * k)) = b := ⟨_, rfl⟩
      have hv8 : IntKind.u8.wrap ((N : Int) / 2 ^ (8 * (k : Int)).toNat) = (b.toNat : Int) := by
        rw [IntKind.wrap_u8', show (8 * (k : Int)).toNat = 8 * k by omega, shr_byte, hbd]
      have Hbd := Lib.hid hbd
      clear hbd
      go_wp2
      go_region_law (refine step_app _ rfl (.tmp 21) (.tmp 27) 22 rfl (g + 1) 5 i0 _ 1 1 Tryd.underlying22 hi0 hz0 hz1 hz2 rfl (by omega) v' (n + k) _ (by simp [Act.eval]) (hownr.alloc _) wr.heap.size (wr.heap.size + 1) (some ⟨wr.heap.size, 0, none⟩) 1 1 [bv b] (by simp [Act.eval]) (by first | exact sl_one _ _ _ | exact (sl_one _ _ _).drew) (one_bv b) (by simp only [maxLen]; omega) (by omega) (by simp; omega) ?_; intro v2 w2 hown2 hg2 hat2; obtain ⟨A2, c2, rfl, _⟩ := own_sl hown2; have hbr2 : Blk w2 g 73 #[v'] := Blk.grown (by first | exact hbr.alloc _ | exact (hbr.alloc _).drew) hg2 (own_off hownr (Nat.lt_succ_self g)); have hc2 := hbr2.cell 0; have hf2 := hbr2.frozen 0; simp only [List.getElem?_toArray, List.getElem?_cons_zero] at hc2)
      go_wp2
      all_goals
        go_roundw
        case rel =>
          have hsz2 : g + 1 ≤ (wr.alloc (Obj.cells #[Value.int IntKind.u8 ↑b.toNat] 5)).drew.heap.size := by simp; omega
          refine ⟨k + 1, by omega, by go_num, _, by simpa using hbr2.set_ 0 _, ?_, ?_⟩
          · have := own_set hown2 (Nat.lt_succ_self g) 0 (Value.slice A2 (n + k + 1) c2)
            rw [List.append_assoc] at this
            simpa [num, Hbd.out, Nat.add_assoc] using this
          · have h1 : Below g w (wr.alloc (Obj.cells #[Value.int IntKind.u8 ↑b.toNat] 5)).drew := (hbel.alloc (by omega) _).drew
            exact (h1.grown hg2 (by omega) (fun q e => by have := (hownr.lt q e).1; omega)).setCell (Nat.le_refl _) _
        case measure => simp [intOf]; omega
    · go_wp2
      have hks : k = size := by omega
      subst hks
      go_end0
      exact ⟨rfl, v', hbr, hownr, hbel⟩
end Go.Proofs.YtciolppoanfiaaaDoor
