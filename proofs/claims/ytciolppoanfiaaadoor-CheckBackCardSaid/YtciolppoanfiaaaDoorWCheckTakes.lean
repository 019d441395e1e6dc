import Derived.Test.YtciolppoanfiaaaDoorWCheckSums
import Derived.Test.YtciolppoanfiaaaDoorWAll
namespace Go.Proofs.YtciolppoanfiaaaDoor
open Go.RowKit

theorem same_quiet {u v : Value} {xs ys : List UInt8} {w : World} {b : Bool} (ha : Bytes w u xs) (hb : Bytes w v ys) (h : (xs == ys) = b) :
    Calls Tryd.prog 17 #[u, v] w fun e w' => e = .returned (.bool b) ∧ ∃ q, w' = w.drewN q := by
  rw [← h]
  exact same_v ha hb

set_option maxRecDepth 100000 in
set_option maxHeartbeats 1600000 in
theorem checkTakes_any {v : Value} {l : List UInt8} (w : World) (ha : Bytes w v l) (hT : Tab w) (hT0 : 0 < w.heap.size) :
    Calls Tryd.prog 5 #[v] w fun e w' => e = .returned (.bool true) ∧ Below w.heap.size w w' := by
  have ha0 := ha
  obtain ⟨A, c, rfl, hs⟩ := ha.now
  have haI := hs.bytesIn
  clear hs ha
  by_cases h : 2000 < l.length
  · go_enter Tryd.func5, Tryd.ntmps5
    go_wp2_with (go_at_call 12; refine (awake2_any w hT hT0).mono ?_; rintro e w1 ⟨rfl, hb1⟩)
    go_ret
    exact ⟨rfl, hb1⟩
  · go_enter Tryd.func5, Tryd.ntmps5
    go_wp2_with (go_at_call 12; refine (awake2_any w hT hT0).mono ?_; rintro e w1 ⟨rfl, hb1⟩)
    refine (take_tot w1 (haI.after hb1) (hT.below hb1 hT0) (Nat.lt_of_lt_of_le hT0 hb1.size)).mono ?_
    rintro e w2 ⟨A2, c2, B2, d2, rfl, hp2, hr2, hb2⟩
    have D2 := hb1.trans (hb2.mono hb1.size)
    have p2 := (hp2 0).1
    have r2 := hr2.bytes
    clear hp2 hr2
    go_wp2_with fail
    refine (refTake_tot w2 (haI.after D2)).mono ?_
    rintro e w3 ⟨A3, c3, B3, d3, rfl, hp3, hr3, hb3⟩
    have D3 := D2.trans (hb3.mono D2.size)
    have p3 := hp3.bytes
    have r3 := hr3.bytes
    have p2 := p2.after hb3
    have r2 := r2.after hb3
    clear hp3 hr3
    go_wp2_with fail
    refine (all_any w3 (ha0.after D3) (hT.below D3 hT0) (Nat.lt_of_lt_of_le hT0 D3.size) (by omega)).mono ?_
    rintro e w4 ⟨u4, r4, E4, rfl, ⟨A4, c4, vs4, B4, d4, rfl, rfl, rfl, ⟨_, _, hs4⟩, hrows4, hbr4⟩, hb4⟩
    have D4 := D3.trans (hb4.mono D3.size)
    have p2 := p2.after hb4
    have r2 := r2.after hb4
    have p3 := p3.after hb4
    have r3 := r3.after hb4
    go_wp2_with fail
    refine (refAll_any w4 (ha0.after D4) (by omega)).mono ?_
    rintro e w5 ⟨u5, r5, E5, rfl, ⟨A5, c5, vs5, B5, d5, rfl, rfl, rfl, ⟨_, _, hs5⟩, hrows5, hbr5⟩, hb5⟩
    have D5 := D4.trans (hb5.mono D4.size)
    have p2 := p2.after hb5
    have r2 := r2.after hb5
    have p3 := p3.after hb5
    have r3 := r3.after hb5
    have hs4 := hs4.after (by decide) hb5
    have hrows4 := hrows4.after hb5
    have hbr4 := hbr4.after hb5
    generalize (all l).1 = ps at hs4 hs5 hrows4 hrows5 ⊢
    generalize (all l).2.1 = rest at hbr4 hbr5 ⊢
    generalize (all l).2.2 = E at ⊢
    have hlen4 : ps.length ≤ c4 := hs4.cap
    have hm4 := hs4.max
    have PACK := Lib.hid (And.intro p2 (And.intro r2 (And.intro p3 r3)))
    have BR := Lib.hid (And.intro hbr4 hbr5)
    clear p2 r2 p3 r3 hbr4 hbr5 hb1 hb2 hb3 hb4 hb5 D2 D3 D4
    obtain ⟨N, hN⟩ : ∃ N, ps.length = N := ⟨_, rfl⟩
    rw [hN] at hs4 hs5 hlen4 ⊢
    have HN := Lib.hid hN
    clear hN
    have hE : ∀ E : Nat, ((E : Int) == (E : Int)) = true := fun E => by simp
    clear hE
    go_wp2_with fail
    go_loopw [16] (fun i wr => ∃ k : Nat, k ≤ N ∧ i = .int .i64 k ∧ Below w5.heap.size w5 wr) (fun i _ => N - (intOf i).toNat)
    case atStart => exact ⟨0, Nat.zero_le _, rfl, Below.refl _ _⟩
    case round =>
      obtain ⟨k, hk, rfl, hbr⟩ := hrel
      by_cases hlt : k < N
      · obtain ⟨ad, x, rfl, hx, hcx⟩ := (hs4.after (by decide) hbr).nth hlt
        obtain ⟨bd, y, rfl, hy, hcy⟩ := (hs5.after (by decide) hbr).nth hlt
        obtain ⟨z, hz⟩ : ∃ z, ps[k]? = some z := ⟨_, List.getElem?_eq_getElem (by have := HN.out; omega)⟩
        obtain ⟨A6, c6, lo6, hi6, rfl, hs6⟩ := (hrows4.after hbr).2 k x z hx hz
        obtain ⟨A7, c7, lo7, hi7, rfl, hs7⟩ := (hrows5.after hbr).2 k y z hy hz
        have h6 := hs6.bytes
        have h7 := hs7.bytes
        clear hx hy hz hs4 hs5 hrows4 hrows5 hs6 hs7
        go_wp2_with fail
        go_quiet ((go_at_call 17; exact Calls.quiet_of (same_quiet (b := true) (h6.drewN _) (h7.drewN _) (by simp))))
        go_wp2
        go_roundw
        case rel => exact ⟨k + 1, by omega, by go_num, below_drewN hbr _⟩
        case measure => simp [intOf]; omega
      · obtain ⟨p2, r2, p3, r3⟩ := PACK.out
        obtain ⟨b4, b5⟩ := BR.out
        have p2 := p2.after hbr
        have r2 := r2.after hbr
        have p3 := p3.after hbr
        have r3 := r3.after hbr
        have b4 := b4.after hbr
        have b5 := b5.after hbr
        have D6 := D5.trans (hbr.mono D5.size)
        clear hs4 hs5 hrows4 hrows5
        go_wp2_with fail
        refine (same_val (b := true) p2 p3 (by simp)).mono ?_
        rintro e w7 ⟨rfl, hb7⟩
        have D7 := D6.trans (hb7.mono D6.size)
        go_wp2_with fail
        refine (same_val (b := true) (r2.after hb7) (r3.after hb7) (by simp)).mono ?_
        rintro e w8 ⟨rfl, hb8⟩
        have D8 := D7.trans (hb8.mono D7.size)
        go_wp2_with fail
        refine (same_val (b := true) ((b4.after hb7).after hb8) ((b5.after hb7).after hb8) (by simp)).mono ?_
        rintro e w9 ⟨rfl, hb9⟩
        have D9 := D8.trans (hb9.mono D8.size)
        go_wp2_with fail
        go_ret
        exact ⟨rfl, D9⟩
end Go.Proofs.YtciolppoanfiaaaDoor
