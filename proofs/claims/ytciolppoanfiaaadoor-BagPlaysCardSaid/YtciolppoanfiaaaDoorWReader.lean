import Derived.Test.YtciolppoanfiaaaDoorWFrame
namespace Go.Proofs.YtciolppoanfiaaaDoor
open Go.RowKit

def rdS (s : Bool) (l : List UInt8) (n : Nat) : Bool := s || decide (l.length < n)
def rdT (s : Bool) (l : List UInt8) (n : Nat) : List UInt8 := if rdS s l n then [] else l.take n
def rdL (s : Bool) (l : List UInt8) (n : Nat) : List UInt8 := if rdS s l n then [] else l.drop n

/-- A reader in block g: what is left, and whether it is shut. -/
def Rdr (w : World) (g lo hi : Nat) (l : List UInt8) (s : Bool) : Prop := (g < lo ∨ hi ≤ g) ∧ ∃ v, Blk w g 104 #[v, .bool s] ∧ BytesIn w lo hi v l

theorem only_setCell {a w : World} {g : Nat} (h : a.grownBy w (some g)) (i : Nat) (u : Value) : a.grownBy (w.setCell ⟨g, i, none⟩ u) (some g) :=
  ⟨h.os, h.tape, h.output, by simpa using h.size, fun k hk hne => (Below.heap_setCell w ⟨g, i, none⟩ u k (fun e => hne (by rw [e]))).trans (h.block k hk hne)⟩
theorem bytes_nil (w : World) : Bytes w (.slice none 0 0) [] := ⟨0, 0, none, 0, rfl, Sl.nil_ _ _ _ _⟩
theorem bytes_none (w : World) (lo hi : Nat) : BytesIn w lo hi (.slice none 0 0) [] := ⟨none, 0, rfl, Sl.nil_ _ _ _ _⟩

theorem Sl.subB {w : World} {lo hi n c k m c' : Nat} {A A' : Option Addr} {l : List UInt8} (h : Sl w lo hi 1 A n c (l.map bv)) (hk : k + m ≤ n) (hm : m ≤ c') (hc : c' ≤ 9223372036854775807) (hA : 0 < m → A' = A.map (·.add k)) :
    Sl w lo hi 1 A' m c' (((l.drop k).take m).map bv) := by
  have := h.sub (A' := A') hk hm hc (by simpa using hA)
  simpa using this
theorem map_add0 (A : Option Addr) : A.map (·.add 0) = A := by cases A <;> simp [Addr.add]

set_option maxRecDepth 100000 in
set_option maxHeartbeats 800000 in
theorem take_any (g lo hi n : Nat) (l : List UInt8) (s : Bool) (w : World) (h : Rdr w g lo hi l s) (hn : n ≤ 1000000) :
    Calls Tryd.prog 77 #[.pointer (some ⟨g, 0, none⟩), .int .i64 (n : Int)] w fun e w' =>
      ∃ A c, e = .returned (.slice A (rdT s l n).length c) ∧ Sl w' lo hi 1 A (rdT s l n).length c ((rdT s l n).map bv) ∧ Rdr w' g lo hi (rdL s l n) (rdS s l n) ∧ w.grownBy w' (some g) := by
  obtain ⟨hg, v, hb, A, c, rfl, hs⟩ := h
  have c0 := hb.cell 0
  have c1 := hb.cell 1
  have f0 := hb.frozen 0
  have f1 := hb.frozen 1
  simp only [List.getElem?_toArray, List.getElem?_cons_zero, List.getElem?_cons_succ] at c0 c1
  have hm := hs.cap
  have hm2 := hs.max
  by_cases hS : rdS s l n = true
  · have e1 : rdT s l n = [] := by simp [rdT, hS]
    have e2 : rdL s l n = [] := by simp [rdL, hS]
    rw [e1, e2, hS]
    clear e1 e2
    have fin : Sl ((w.setCell ⟨g, 1, none⟩ (.bool true)).setCell ⟨g, 0, none⟩ (.slice none 0 0)) lo hi 1 none 0 0 (([] : List UInt8).map bv) ∧ Rdr ((w.setCell ⟨g, 1, none⟩ (.bool true)).setCell ⟨g, 0, none⟩ (.slice none 0 0)) g lo hi [] true ∧ w.grownBy ((w.setCell ⟨g, 1, none⟩ (.bool true)).setCell ⟨g, 0, none⟩ (.slice none 0 0)) (some g) := by
      have b1 := (hb.set_ 1 (.bool true)).set_ 0 (.slice none 0 0)
      exact ⟨Sl.nil_ _ _ _ _, ⟨hg, _, by simpa using b1, bytes_none _ _ _⟩, only_setCell (only_setCell (World.grownBy.refl w _) _ _) _ _⟩
    have FIN := Lib.hid fin
    clear fin hs hb
    have hSn : s = true ∨ s = false ∧ l.length < n := by cases s <;> simp_all [rdS]
    generalize l.length = m at hm hSn c0
    rcases hSn with rfl | ⟨rfl, hlt⟩
    all_goals
      go_enter Tryd.func77, Tryd.ntmps77
      go_wp2
      go_ret
      exact ⟨none, 0, rfl, FIN.out⟩
  · have hs0 : s = false := by cases s <;> simp_all [rdS]
    subst hs0
    have hle : n ≤ l.length := by simpa [rdS] using hS
    have e1 : rdT false l n = l.take n := by simp [rdT, hS]
    have e2 : rdL false l n = l.drop n := by simp [rdL, hS]
    have hS' : rdS false l n = false := by simpa using hS
    rw [e1, e2, hS']
    clear e1 e2 hS hS'
    have hlen : (l.take n).length = n := by simp; omega
    have hlt : decide ((l.length : Int) < n) = false := by simp; omega
    rw [hlen]
    have Hl := Lib.hid hlen
    clear hlen
    obtain ⟨m, hm'⟩ : ∃ m, l.length = m := ⟨_, rfl⟩
    rw [hm'] at hle hm hlt hb c0 hs
    have Hm := Lib.hid hm'
    clear hm'
    have fin : ∀ A' c', (0 < m - n → A' = A.map (·.add n)) → m - n ≤ c' → c' ≤ 9223372036854775807 →
        Sl ((w.setCell ⟨g, 1, none⟩ (.bool false)).setCell ⟨g, 0, none⟩ (.slice A' (m - n) c')) lo hi 1 A n c ((l.take n).map bv) ∧ Rdr ((w.setCell ⟨g, 1, none⟩ (.bool false)).setCell ⟨g, 0, none⟩ (.slice A' (m - n) c')) g lo hi (l.drop n) false ∧ w.grownBy ((w.setCell ⟨g, 1, none⟩ (.bool false)).setCell ⟨g, 0, none⟩ (.slice A' (m - n) c')) (some g) := by
      intro A' c' hA hc1 hc2
      have s1 := (hs.setCell (p := ⟨g, 1, none⟩) hg (.bool false)).setCell (p := ⟨g, 0, none⟩) hg (.slice A' (m - n) c')
      have t1 := s1.subB (k := 0) (m := n) (c' := c) (A' := A) (by omega) (by omega) hm2 (fun _ => (map_add0 A).symm)
      have t2 := s1.subB (k := n) (m := m - n) (c' := c') (A' := A') (by omega) hc1 hc2 hA
      have b1 := (hb.set_ 1 (.bool false)).set_ 0 (.slice A' (m - n) c')
      have hd : (l.drop n).length = m - n := by rw [List.length_drop, Hm.out]
      rw [List.take_of_length_le (by omega)] at t2
      exact ⟨by simpa using t1, ⟨hg, _, by simpa using b1, t2.bytesIn⟩, only_setCell (only_setCell (World.grownBy.refl w _) _ _) _ _⟩
    have FIN := Lib.hid fin
    clear fin
    go_enter Tryd.func77, Tryd.ntmps77
    go_wp2
    · go_ret
      obtain ⟨x1, x2, x3⟩ := FIN.out A 0 (by omega) (by omega) (by omega)
      have hcn : c = n := by assumption
      exact ⟨A, c, (by rw [hcn]; rfl), by simpa using x1, x2, x3⟩
    · go_ret
      obtain ⟨x1, x2, x3⟩ := FIN.out (A.map (·.add n)) (c - n) (fun _ => rfl) (by omega) (by omega)
      exact ⟨A, c, rfl, by simpa using x1, x2, x3⟩

/-- The number of bytes, the lowest one first. -/
def le : List UInt8 → Nat
  | [] => 0
  | b :: l => b.toNat + 256 * le l
theorem le_lt (l : List UInt8) : le l < 256 ^ l.length := by
  induction l with
  | nil => simp [le]
  | cons b l ih =>
    have := b.toNat_lt
    simp only [le, List.length_cons, Nat.pow_succ]
    omega
theorem le_snoc (l : List UInt8) (b : UInt8) : le (l ++ [b]) = le l + b.toNat * 256 ^ l.length := by
  induction l with
  | nil => simp [le]
  | cons c l ih =>
    simp only [List.cons_append, le, ih, List.length_cons, Nat.pow_succ, Nat.mul_add]
    rw [Nat.mul_comm (256 ^ l.length) 256, ← Nat.mul_assoc b.toNat, Nat.mul_comm b.toNat 256, Nat.mul_assoc 256 b.toNat]
    omega
theorem le_or (l : List UInt8) (b : UInt8) (k : Nat) (hk : l.length = k) : le l ||| (b.toNat <<< (8 * k)) = le (l ++ [b]) := by
  rw [le_snoc, hk, Nat.shiftLeft_eq, Nat.pow_mul]
  have h := le_lt l
  rw [hk] at h
  rw [Nat.or_comm]
  rw [show (2 ^ 8 : Nat) = 256 from rfl, Nat.mul_comm b.toNat]
  rw [show (256 : Nat) ^ k = 2 ^ (8 * k) by rw [Nat.pow_mul]] at h ⊢
  rw [← Nat.two_pow_add_eq_or_of_lt h b.toNat]
  omega

theorem or_step (xs : List UInt8) (x : UInt8) (k : Nat) (hk : k < 8) (hx : xs[k]? = some x) :
    bits .or .u64 (le (xs.take k) : Nat) (IntKind.u64.wrap (IntKind.u64.wrap (x.toNat : Int) * 2 ^ (8 * k))) = (le (xs.take (k + 1)) : Nat) := by
  obtain ⟨hx1, hx2⟩ := List.getElem?_eq_some_iff.1 hx
  have hlen : (xs.take k).length = k := by simp; omega
  have hl := le_lt (xs.take k)
  rw [hlen] at hl
  have hx8 := x.toNat_lt
  have h56 : (256 : Nat) ^ k ≤ 256 ^ 7 := Nat.pow_le_pow_right (by decide) (by omega)
  have hsh : x.toNat <<< (8 * k) = x.toNat * 256 ^ k := by rw [Nat.shiftLeft_eq, Nat.pow_mul]
  have hb : x.toNat <<< (8 * k) < 18446744073709551616 := by
    rw [hsh]
    calc x.toNat * 256 ^ k ≤ 255 * 256 ^ k := Nat.mul_le_mul_right _ (by omega)
      _ ≤ 255 * 256 ^ 7 := Nat.mul_le_mul_left _ h56
      _ < 18446744073709551616 := by decide
  have e1 : IntKind.u64.wrap (x.toNat : Int) = (x.toNat : Int) := by rw [IntKind.wrap_u64]; omega
  have e2 : (x.toNat : Int) * 2 ^ (8 * k) = ((x.toNat <<< (8 * k) : Nat) : Int) := by rw [Nat.shiftLeft_eq]; simp
  have e3 : IntKind.u64.wrap ((x.toNat <<< (8 * k) : Nat) : Int) = ((x.toNat <<< (8 * k) : Nat) : Int) := by rw [IntKind.wrap_u64]; omega
  rw [e1, e2, e3, u64_or_nat _ _ (by have : (256 : Nat) ^ 7 < 18446744073709551616 := by decide
                                     omega) hb, le_or _ _ _ hlen, List.take_succ_eq_append_getElem hx1, hx2]

set_option maxRecDepth 100000 in
set_option maxHeartbeats 800000 in
theorem rnum_any (g lo hi n : Nat) (l : List UInt8) (s : Bool) (w : World) (h : Rdr w g lo hi l s) (h1 : 1 ≤ n) (h8 : n ≤ 8) :
    Calls Tryd.prog 51 #[.pointer (some ⟨g, 0, none⟩), .int .i64 (n : Int)] w fun e w' =>
      e = .returned (.int .u64 (le (rdT s l n) : Nat)) ∧ Rdr w' g lo hi (rdL s l n) (rdS s l n) ∧ w.grownBy w' (some g) := by
  have t1 : decide ((n : Int) < 1) = false := by simp; omega
  have t2 : decide ((8 : Int) < n) = false := by simp; omega
  have hlen : (rdT s l n).length ≤ n := by unfold rdT; split <;> simp; omega
  go_enter Tryd.func51, Tryd.ntmps51
  go_wp2_with (go_at_call 77; refine (take_any g lo hi n l s _ h (by omega)).mono ?_; rintro e w1 ⟨A, c, rfl, hs, hr, hg⟩)
  clear h t1 t2
  have HR := Lib.hid hr
  have HG := Lib.hid hg
  clear hr hg
  obtain ⟨xs, hxs⟩ : ∃ xs, rdT s l n = xs := ⟨_, rfl⟩
  rw [hxs] at hlen hs ⊢
  have Hxs := Lib.hid hxs
  clear hxs
  obtain ⟨m, hm⟩ : ∃ m, xs.length = m := ⟨_, rfl⟩
  rw [hm] at hlen hs ⊢
  have Hm := Lib.hid hm
  clear hm
  have hmc := hs.max
  go_loop [5, 24] (fun v i => ∃ k : Nat, k ≤ m ∧ i = .int .i64 k ∧ v = .int .u64 (le (xs.take k) : Nat)) (fun _ i => m - (intOf i).toNat)
  case atStart => exact ⟨0, Nat.zero_le _, rfl, rfl⟩
  case round =>
    obtain ⟨k, hk, rfl, rfl⟩ := hrel
    by_cases hlt : k < m
    · obtain ⟨ad, x, rfl, hx, hcx⟩ := hs.byte hlt
      have Hx := Lib.hid hx
      clear hx hs
      go_wp2
      go_round
      case rel => exact ⟨k + 1, by omega, by go_num, by rw [or_step xs x k (by omega) Hx.out]⟩
      case measure => simp [intOf]; omega
    · go_wp2
      go_ret
      refine ⟨ret_int ?_, HR.out, HG.out⟩
      rw [List.take_of_length_le (by have := Hm.out; omega), Hxs.out]
end Go.Proofs.YtciolppoanfiaaaDoor
