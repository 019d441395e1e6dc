import Derived.Test.YtbgdepaffgeinaaRNewer
import Derived.Test.YtbgdepaffgeinaaWHint
namespace Go.Proofs.Ytbgdepaffgeinaa
open Go.RowKit

/-- the last number below p, of the first k from the base on, of another term -/
def best (base bt : Nat) (es : List Ent) (own p : Nat) : Nat → Nat
  | 0 => base
  | k + 1 => if base + k < p ∧ termAt base bt es (base + k) ≠ own then base + k else best base bt es own p k
theorem best_yes {base bt : Nat} {es : List Ent} {own p k : Nat} (h1 : base + k < p) (h2 : termAt base bt es (base + k) ≠ own) : best base bt es own p (k + 1) = base + k := by
  simp only [best]; rw [if_pos ⟨h1, h2⟩]
theorem best_no {base bt : Nat} {es : List Ent} {own p k : Nat} (h : ¬ (base + k < p ∧ termAt base bt es (base + k) ≠ own)) : best base bt es own p (k + 1) = best base bt es own p k := by
  simp only [best]; rw [if_neg h]
def rhintF (base bt : Nat) (es : List Ent) (prev : Nat) : Nat :=
  if min prev (base + es.length) ≤ base then base else best base bt es (termAt base bt es (min prev (base + es.length))) (min prev (base + es.length)) (es.length + 1)

set_option maxRecDepth 100000 in
set_option maxHeartbeats 2000000 in
theorem rhint_any (base bt n c prev lo hi : Nat) (A : Option Addr) (es : List Ent) (w : World) (hs : Sl w lo hi 3 A n c (ecells es)) (hb : base < 1152921504606846976) (hn : n ≤ 1000) :
    Calls Try.prog 27 #[.agg #[.int .u64 (base : Int), .int .u64 (bt : Int), .slice A n c], .int .u64 (prev : Int)] w fun e w' => e = .returned (.int .u64 (rhintF base bt es prev : Nat)) ∧ Below w.heap.size w w' := by
  have hl : es.length = n := by have := hs.len; rw [ecells_len] at this; omega
  unfold rhintF
  rw [hl]
  obtain ⟨p, hpd⟩ : ∃ p, min prev (base + n) = p := ⟨_, rfl⟩
  rw [hpd]
  have hpn : p ≤ base + n := by omega
  have hmn := run_min2u (P := Try.prog) #[22, 22] 22 prev base n p hpd
  have HP := Lib.hid hpd
  clear hpd
  by_cases h1 : p ≤ base
  · rw [if_pos h1]
    go_enter Try.func27, Try.ntmps27
    go_wp2_with (go_at_call 23; refine (rlast_any base n c bt A _ hb hn).mono ?_; rintro e w1 ⟨rfl, hb1⟩; obtain ⟨x0, x1, x2⟩ := ((Blk.new w _ _).after hb1).c3)
    go_ret
    exact ⟨rfl, below_boxed hb1⟩
  · rw [if_neg h1]
    have hT := fun i w' (h : Below w.heap.size w w') => rterm_any base bt n c i lo _ A es w' (hs.now (by decide) |>.below h (Nat.le_refl _)) hb hn
    have HT := Lib.hid hT
    clear hT
    have hT := HT.out p
    generalize hO : termAt base bt es p = O at hT ⊢
    have HO := Lib.hid hO
    clear hO
    generalize decide (base ≤ p ∧ p ≤ base + n) = d at hT
    go_enter Try.func27, Try.ntmps27
    go_wp2_with fail
    refine (rlast_any base n c bt A _ hb hn).mono ?_
    rintro e w1 ⟨rfl, hb1⟩
    obtain ⟨x0, x1, x2⟩ := ((Blk.new w _ _).after hb1).c3
    have D1 := below_boxed hb1
    go_wp2_with fail
    refine (hT _ D1).mono ?_
    rintro e w2 ⟨rfl, hb2⟩
    have D2 := D1.trans (hb2.mono D1.size)
    have B2 := ((Blk.new w _ _).after hb1).after hb2
    have hg := B2.lt
    obtain ⟨y0, y1, y2⟩ := B2.c3
    clear hT hb1 hb2 D1 x0 x1 x2
    go_wp2_with fail
    go_loopw [8, 9] (fun b i wr => ∃ k : Nat, k ≤ n + 1 ∧ i = .int .i64 k ∧ b = .int .u64 (best base bt es O p k : Nat) ∧ Blk wr w.heap.size 28 #[.int .u64 (base : Int), .int .u64 (bt : Int), .slice A n c] ∧ Below w.heap.size w wr) (fun _ i _ => n + 1 - (intOf i).toNat)
    case atStart => exact ⟨0, Nat.zero_le _, rfl, rfl, B2, D2⟩
    case round =>
      obtain ⟨k, hk, rfl, rfl, Br, Dr⟩ := hrel
      clear B2 D2 y0 y1 y2 hg
      obtain ⟨x0, x1, x2⟩ := Br.c3
      by_cases hlt : k ≤ n
      · have hi2 : ((base + k : Nat) : Int) = (base : Int) + (k : Int) := by omega
        have hT := HT.out (base + k)
        rw [hi2] at hT
        have hyes := @best_yes base bt es O p k
        have hno := @best_no base bt es O p k
        generalize termAt base bt es (base + k) = T at hT hyes hno
        generalize best base bt es O p k = b0 at hno ⊢
        generalize decide (base ≤ base + k ∧ base + k ≤ base + n) = d2 at hT
        have HYES := Lib.hid hyes
        have HNO := Lib.hid hno
        clear hyes hno
        by_cases hp1 : base + k < p
        · by_cases hTO : T = O
          · have hne : ((T : Int) != (O : Int)) = false := by simp; omega
            have HB := HNO.out (by omega)
            have HB' := Lib.hid HB
            clear HB
            go_wp2_with (go_at_call 17; refine (hT _ Dr).mono ?_; rintro e w3 ⟨rfl, hb3⟩)
            go_roundw
            case rel => exact ⟨k + 1, by omega, by go_num, by rw [HB'.out], Br.after hb3, Dr.trans (hb3.mono Dr.size)⟩
            case measure => simp [intOf]; omega
          · have hne : ((T : Int) != (O : Int)) = true := by simp; omega
            have HB := HYES.out hp1 hTO
            have HB' := Lib.hid HB
            clear HB
            go_wp2_with (go_at_call 17; refine (hT _ Dr).mono ?_; rintro e w3 ⟨rfl, hb3⟩)
            go_roundw
            case rel => exact ⟨k + 1, by omega, by go_num, by rw [HB'.out]; go_num, Br.after hb3, Dr.trans (hb3.mono Dr.size)⟩
            case measure => simp [intOf]; omega
        · have HB := HNO.out (by omega)
          have HB' := Lib.hid HB
          clear HB
          go_wp2_with (go_at_call 17; refine (hT _ Dr).mono ?_; rintro e w3 ⟨rfl, hb3⟩)
          go_roundw
          case rel => exact ⟨k + 1, by omega, by go_num, by rw [HB'.out], Br.after hb3, Dr.trans (hb3.mono Dr.size)⟩
          case measure => simp [intOf]; omega
      · have hkn : k = n + 1 := by omega
        subst hkn
        go_wp2
        go_ret
        exact ⟨rfl, Dr⟩
end Go.Proofs.Ytbgdepaffgeinaa
