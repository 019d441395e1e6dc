import Derived.Test.YtciolppoanfiaaaDoorWAwake2
import Derived.Test.YtciolppoanfiaaaDoorWRefTake
namespace Go.Proofs.YtciolppoanfiaaaDoor
open Go.RowKit

/-- Both frames: what the program and the document return are alike. -/
def Framed (w w' : World) (l : List UInt8) (u : Value) (E : Int) : Prop := Below w.heap.size w w' ∧ ∃ A c n, u = .slice A n c ∧ Bytes w' u (if l.length ≤ 1000 then frameOf l else []) ∧ E = if l.length ≤ 1000 then 0 else 2
theorem frame_both {v : Value} {l : List UInt8} (w : World) (ha : Bytes w v l) (hT : Tab w) (hT0 : 0 < w.heap.size) :
    Calls Tryd.prog 14 #[v] w fun e w' => ∃ u E, e = .returned (.tuple #[u, .int .i64 E]) ∧ Framed w w' l u E := by
  by_cases h : l.length ≤ 1000
  · refine (frame_ok w ha hT hT0 h).mono ?_
    rintro e w' ⟨u, rfl, hown, hb⟩
    obtain ⟨A, c, rfl, -⟩ := own_sl hown
    refine ⟨_, _, rfl, hb, _, _, _, rfl, ?_, ?_⟩
    · rw [if_pos h]; exact own_bytes hown
    · rw [if_pos h]
  · refine (frame_long w ha (by omega)).mono ?_
    rintro e w' ⟨rfl, rfl⟩
    refine ⟨_, _, rfl, Below.refl _ _, _, _, _, rfl, ?_, ?_⟩
    · rw [if_neg h]; exact bytes_nil _
    · rw [if_neg h]
theorem refFrame_both {v : Value} {l : List UInt8} (w : World) (ha : Bytes w v l) :
    Calls Tryd.prog 15 #[v] w fun e w' => ∃ u E, e = .returned (.tuple #[u, .int .i64 E]) ∧ Framed w w' l u E := by
  by_cases h : l.length ≤ 1000
  · refine (refFrame_ok w ha h).mono ?_
    rintro e w' ⟨u, rfl, hown, hb⟩
    obtain ⟨A, c, rfl, -⟩ := own_sl hown
    refine ⟨_, _, rfl, hb, _, _, _, rfl, ?_, ?_⟩
    · rw [if_pos h]; exact own_bytes hown
    · rw [if_pos h]
  · refine (refFrame_long w ha (by omega)).mono ?_
    rintro e w' ⟨rfl, rfl⟩
    refine ⟨_, _, rfl, Below.refl _ _, _, _, _, rfl, ?_, ?_⟩
    · rw [if_neg h]; exact bytes_nil _
    · rw [if_neg h]

set_option maxRecDepth 100000 in
set_option maxHeartbeats 800000 in
theorem checkSums_any {v : Value} {l : List UInt8} (w : World) (ha : Bytes w v l) (hT : Tab w) (hT0 : 0 < w.heap.size) :
    Calls Tryd.prog 3 #[v] w fun e w' => e = .returned (.bool true) ∧ Below w.heap.size w w' := by
  have ha0 := ha
  obtain ⟨_, _, A, c, rfl, hs⟩ := ha
  clear hs
  by_cases h : 2000 < l.length
  · go_enter Tryd.func3, Tryd.ntmps3
    go_wp2_with (go_at_call 12; refine (awake2_any w hT hT0).mono ?_; rintro e w1 ⟨rfl, hb1⟩)
    go_ret
    exact ⟨rfl, hb1⟩
  · obtain ⟨S, hS⟩ : ∃ S, Crc.sum l = S := ⟨_, rfl⟩
    have HS := Lib.hid hS
    clear hS
    go_enter Tryd.func3, Tryd.ntmps3
    go_wp2_with (go_at_call 12; refine (awake2_any w hT hT0).mono ?_; rintro e w1 ⟨rfl, hb1⟩)
    have z1 := hb1.size
    refine (sum_val (ha0.after hb1) (hT.below hb1 hT0) HS.out).mono ?_
    rintro e w2 ⟨rfl, hb2⟩
    have D2 := hb1.trans (hb2.mono z1)
    go_wp2_with fail
    refine (frame_both w2 (ha0.after D2) (hT.below D2 hT0) (Nat.lt_of_lt_of_le hT0 D2.size)).mono ?_
    rintro e w3 ⟨u3, E3, rfl, hb3, A3, c3, n3, rfl, hu3, hE3⟩
    have D3 := D2.trans (hb3.mono D2.size)
    have HE3 := Lib.hid hE3
    clear hE3
    go_wp2_with fail
    refine (refFrame_both w3 (ha0.after D3)).mono ?_
    rintro e w4 ⟨u4, E4, rfl, hb4, A4, c4, n4, rfl, hu4, hE4⟩
    have D4 := D3.trans (hb4.mono D3.size)
    have e43 : E4 = E3 := by rw [hE4, HE3.out]
    subst e43
    clear hE4
    have hu34 := hu3.after hb4
    go_wp2_with fail
    refine (refSum_val (ha0.after D4) HS.out).mono ?_
    rintro e w5 ⟨rfl, hb5⟩
    have D5 := D4.trans (hb5.mono D4.size)
    go_wp2_with fail
    refine (same_val (b := true) (hu34.after hb5) (hu4.after hb5) (by simp)).mono ?_
    rintro e w6 ⟨rfl, hb6⟩
    have D6 := D5.trans (hb6.mono D5.size)
    go_wp2_with fail
    go_ret
    exact ⟨rfl, D6⟩
end Go.Proofs.YtciolppoanfiaaaDoor
