import Derived.Test.YtbgdepaffgeinaaProg
import Derived.Test.YtbgdepaffgeinaaMem
import Derived.Deep.QuietTactic
import Derived.BigQuiet
namespace Go.Proofs.Ytbgdepaffgeinaa
open Go.RowKit

def bv (b : UInt8) : Value := .int .u8 (b.toNat : Int)

theorem take_next {xs ys : List UInt8} {k : Nat} (hx : k < xs.length) (hy : k < ys.length) (h : xs.take k = ys.take k) (e : xs[k] = ys[k]) : xs.take (k + 1) = ys.take (k + 1) := by
  rw [List.take_succ_eq_append_getElem hx, List.take_succ_eq_append_getElem hy, h, e]

theorem Sl.byte {w : World} {lo hi n c : Nat} {A : Option Addr} {xs : List UInt8} {k : Nat} (h : Sl w lo hi 1 A n c (xs.map bv)) (hk : k < n) :
    ∃ ad b, A = some ad ∧ xs[k]? = some b ∧ w.cell? (ad.add k) = some (.int .u8 (b.toNat : Int)) := by
  obtain ⟨ad, u, e, hx, hc⟩ := h.nth hk
  rw [List.getElem?_map] at hx
  match hb : xs[k]?, hx with
  | some b, hx => exact ⟨ad, b, e, rfl, by rw [hc]; simpa [bv] using hx.symm⟩

set_option maxHeartbeats 400000 in
theorem same_any (A B : Option Addr) (n m c d lo hi lo' hi' : Nat) (xs ys : List UInt8) (w : World) (ha : Sl w lo hi 1 A n c (xs.map bv)) (hb : Sl w lo' hi' 1 B m d (ys.map bv)) :
    Calls Try.prog 53 #[.slice A n c, .slice B m d] w fun e w' => e = .returned (.bool (xs == ys)) ∧ ∃ q, w' = w.drewN q := by
  have hn := ha.len
  have hm := hb.len
  simp only [List.length_map, Nat.mul_one] at hn hm
  have b1 := ha.cap
  have b2 := ha.max
  by_cases h : n = m
  · obtain rfl := h
    have Hn := Lib.hid hn
    have Hm := Lib.hid hm
    clear hn hm
    go_enter Try.func53, Try.ntmps53
    go_wp2
    go_loopw [5] (fun i wr => ∃ k q : Nat, k ≤ n ∧ i = .int .i64 k ∧ xs.take k = ys.take k ∧ wr = w.drewN q) (fun i _ => n - (intOf i).toNat)
    case atStart => exact ⟨0, 0, Nat.zero_le _, rfl, rfl, rfl⟩
    case round =>
      obtain ⟨k, q, hk, rfl, ht, rfl⟩ := hrel
      have Ht := Lib.hid ht
      clear ht
      by_cases hlt : k < n
      · obtain ⟨ad, x, rfl, hx, hcx⟩ := ha.byte hlt
        obtain ⟨bd, y, rfl, hy, hcy⟩ := hb.byte hlt
        have Hx := Lib.hid hx
        have Hy := Lib.hid hy
        clear hx hy ha hb
        go_wp2
        go_quiet (fail)
        go_wp2
        · have hne : ((x.toNat : Int) != (y.toNat : Int)) = true := by assumption
          go_ret
          refine ⟨congrArg (fun b => Ending.returned (.bool b)) (beq_eq_false_iff_ne.2 fun e => ?_).symm, q + nq, by simp⟩
          rw [e] at Hx
          rw [Hx.out] at Hy
          simp [Option.some.inj Hy.out] at hne
        · have heq : ((x.toNat : Int) != (y.toNat : Int)) = false := by assumption
          go_roundw
          case rel =>
            refine ⟨k + 1, q + nq, by omega, by go_num, ?_, rfl⟩
            obtain ⟨hx1, hx2⟩ := List.getElem?_eq_some_iff.1 Hx.out
            obtain ⟨hy1, hy2⟩ := List.getElem?_eq_some_iff.1 Hy.out
            refine take_next hx1 hy1 Ht.out ?_
            rw [hx2, hy2]
            exact UInt8.toNat_inj.1 (by simp at heq; omega)
          case measure => simp [intOf]; omega
      · go_wp2
        go_ret
        refine ⟨congrArg (fun b => Ending.returned (.bool b)) (beq_iff_eq.2 ?_).symm, q, rfl⟩
        have := Ht.out
        rwa [List.take_of_length_le (by have := Hn.out; omega), List.take_of_length_le (by have := Hm.out; omega)] at this
  · go_enter Try.func53, Try.ntmps53
    go_wp2
    go_ret
    exact ⟨congrArg (fun b => Ending.returned (.bool b)) (beq_eq_false_iff_ne.2 fun e => h (by rw [← hn, ← hm, e])).symm, 0, rfl⟩
end Go.Proofs.Ytbgdepaffgeinaa
