import Derived.Test.YtciolppoanfiaaaDoorWReader
namespace Go.Proofs.YtciolppoanfiaaaDoor
open Go.RowKit

theorem le_cons_drop (l : List UInt8) (j : Nat) (x : UInt8) (h : l[j]? = some x) : le (l.drop j) = le (l.drop (j + 1)) * 256 + x.toNat := by
  obtain ⟨h1, h2⟩ := List.getElem?_eq_some_iff.1 h
  rw [List.drop_eq_getElem_cons h1, h2]
  simp only [le]
  omega
theorem le_drop_lt (l : List UInt8) (j : Nat) (hl : l.length ≤ 8) : le (l.drop j) < 18446744073709551616 := by
  have h := le_lt (l.drop j)
  have h2 : 256 ^ (l.drop j).length ≤ 256 ^ 8 := Nat.pow_le_pow_right (by decide) (by simp; omega)
  have h3 : (256 : Nat) ^ 8 = 18446744073709551616 := by decide
  omega

set_option maxRecDepth 100000 in
set_option maxHeartbeats 800000 in
theorem of_any {v : Value} {l : List UInt8} (w : World) (ha : Bytes w v l) (hl : l.length ≤ 8) :
    Calls Tryd.prog 53 #[v] w fun e w' => e = .returned (.int .u64 (le l : Nat)) ∧ w = w' := by
  obtain ⟨_, _, A, c, rfl, hs⟩ := ha
  have hlen : l.length = l.length := rfl
  obtain ⟨m, hm⟩ : ∃ m, l.length = m := ⟨_, rfl⟩
  clear hlen
  have hmc := hs.max
  rw [hm] at hs hl ⊢
  have hb := le_drop_lt l
  have Hm := Lib.hid hm
  have HB : Hid (∀ j, le (l.drop j) < 18446744073709551616) := fun j => hb j (by omega)
  clear hb hm
  go_enter Tryd.func53, Tryd.ntmps53
  go_wp2
  go_loop [3, 4] (fun n i => ∃ j : Nat, j ≤ m ∧ i = .int .i64 ((j : Int) - 1) ∧ n = .int .u64 (le (l.drop j) : Nat)) (fun _ i => (intOf i + 1).toNat)
  case atStart => exact ⟨m, Nat.le_refl _, rfl, by rw [List.drop_of_length_le (by have := Hm.out; omega)]; rfl⟩
  case round =>
    obtain ⟨j, hj, rfl, rfl⟩ := hrel
    rcases Nat.eq_zero_or_pos j with h0 | h0
    · subst h0
      go_wp2
      go_ret
      exact ⟨rfl, rfl⟩
    · obtain ⟨k, rfl⟩ : ∃ k, j = k + 1 := ⟨j - 1, by omega⟩
      obtain ⟨ad, x, rfl, hx, hcx⟩ := hs.byte (show k < m by omega)
      have hs1 := le_cons_drop l k x hx
      have q1 := HB.out k
      have q2 := HB.out (k + 1)
      have hx8 : x.toNat < 256 := x.toNat_lt
      obtain ⟨n', hn'⟩ : ∃ n', le (l.drop k) = n' := ⟨_, rfl⟩
      obtain ⟨n, hn⟩ : ∃ n, le (l.drop (k + 1)) = n := ⟨_, rfl⟩
      rw [hn', hn] at hs1
      rw [hn'] at q1
      rw [hn] at q2 ⊢
      have Hn' := Lib.hid hn'
      have q3 : n * 256 + x.toNat < 18446744073709551616 := by omega
      have Hs := Lib.hid hs1
      have e : ((k + 1 : Nat) : Int) - 1 = (k : Int) := by omega
      rw [e]
      clear hn' hn hx hs hs1 e q1
      go_wp2
      go_round
      case rel => exact ⟨k, by omega, by go_num, by rw [Hn'.out, Hs.out]; go_num⟩
      case measure => simp [intOf]
end Go.Proofs.YtciolppoanfiaaaDoor
