import Derived.Test.YtciolppoanfiaaaDoorWFrame
namespace Go.Proofs.YtciolppoanfiaaaDoor
open Go.RowKit

set_option maxRecDepth 100000 in
set_option maxHeartbeats 400000 in
theorem refFrame_long {v : Value} {l : List UInt8} (w : World) (ha : Bytes w v l) (h : 1000 < l.length) :
    Calls Tryd.prog 15 #[v] w fun e w' => e = .returned (.tuple #[.slice none 0 0, .int .i64 2]) ∧ w = w' := by
  obtain ⟨_, _, A, c, rfl, hs⟩ := ha
  clear hs
  generalize l.length = n at h
  go_enter Tryd.func15, Tryd.ntmps15
  go_wp2
  go_ret2
  exact ⟨rfl, rfl⟩

set_option maxRecDepth 100000 in
set_option maxHeartbeats 800000 in
theorem refFrame_ok {v : Value} {l : List UInt8} (w : World) (ha : Bytes w v l) (h : l.length ≤ 1000) :
    Calls Tryd.prog 15 #[v] w fun e w' => ∃ u, e = .returned (.tuple #[u, .int .i64 0]) ∧ w'.ownsRow w.heap.size 5 1 u (l.length + 6) ((frameOf l).map bv) ∧ Below w.heap.size w w' := by
  obtain ⟨i0, hi0, hz0, hz1, hz2⟩ := info_parts u8_info
  have hsum := Crc.sum_lt (num l.length 2 ++ l)
  have ha0 := ha
  obtain ⟨_, _, A, c, rfl, hs⟩ := ha
  clear hs
  obtain ⟨S, hS⟩ : ∃ S, Crc.sum (num l.length 2 ++ l) = S := ⟨_, rfl⟩
  rw [hS] at hsum
  have HS := Lib.hid hS
  clear hS
  go_enter Tryd.func15, Tryd.ntmps15
  go_wp2_with (first
    | (at_builtin; have _g := hB6; go_must (refine wpList_app _ rfl (.tmp 25) (.tmp 26) 22 rfl w.heap.size 5 i0 _ 1 1 Tryd.underlying22 hi0 hz0 hz1 hz2 rfl (by omega) (.slice A6 (2 + 4) c6) (2 + 4) _ rfl hown6 _ _ A l.length c (l.map bv) rfl hs6 (bv_one l) (by simp only [maxLen]; omega) (by omega) (by omega) ?_; intro v7 w7 hown7 hg7 hat7))
    | (at_builtin; have _g := hB5; go_must (refine wpList_app _ rfl (.tmp 20) (.tmp 23) 22 rfl w.heap.size 5 i0 _ 1 1 Tryd.underlying22 hi0 hz0 hz1 hz2 rfl (by omega) (.slice A1 2 c1) 2 _ rfl (own_after hown1 hB5) _ _ A5 4 c5 _ rfl hs5 (bv_one _) (by simp only [maxLen]; omega) (by omega) (by omega) ?_; intro v6 w6 hown6 hg6 hat6; obtain ⟨A6, c6, rfl, -⟩ := own_sl hown6; have hB6 := (hbel1.trans (hB5.mono hz1')).grown hg6 (by omega) (fun q e => (hown1.lt q e).1); have hz6 := hB6.size; obtain ⟨A', c', e', hs6⟩ := (ha0.after hB6).now; cases e'))
    | (go_at_call 49; have _g := hB3; go_must (refine (refNumber_any S 4 _ (by omega) (by omega)).mono ?_; rintro e w5 ⟨u5, rfl, hown5, hbel5⟩; obtain ⟨A5, c5, rfl, hs5⟩ := own_sl hown5; have hB5 := hB3.trans (hbel5.mono (by omega)); have hz5 := hB5.size))
    | (go_at_call 16; refine (refSum_v hu3).mono ?_; rw [HS.out]; rintro e w' ⟨rfl, rfl⟩)
    | (at_builtin; have _g := hB2; go_must (refine wpList_app _ rfl (.tmp 16) (.tmp 17) 22 rfl w1.heap.size 5 i0 _ 1 1 Tryd.underlying22 hi0 hz0 hz1 hz2 rfl (by omega) (.slice A2 (0 + 2) c2) (0 + 2) _ rfl hown2 _ _ A l.length c (l.map bv) rfl hs2 (bv_one l) (by simp only [maxLen]; omega) (by omega) (by omega) ?_; intro v3 w3 hown3 hg3 hat3; obtain ⟨A3, c3, rfl, -⟩ := own_sl hown3; have hB3 := hB2.grown hg3 (by omega) (fun q e => (hown2.lt q e).1); have hz3 := hB3.size; have hu3 : Bytes w3 _ (num l.length 2 ++ l) := own_bytes (by simpa using hown3)))
    | (at_builtin; have _g := hz1'; go_must (refine wpList_app _ rfl (.tmp 14) (.tmp 15) 22 rfl w1.heap.size 5 i0 _ 1 1 Tryd.underlying22 hi0 hz0 hz1 hz2 rfl (by omega) (.slice (some ⟨w1.heap.size, 0, none⟩) 0 0) 0 [] rfl (own_empty w1 w1.heap.size 1 5 rfl) _ _ A1 2 c1 _ rfl (hs1.alloc (by decide) _) (bv_one _) (by simp only [maxLen]; omega) (by omega) (by simp) ?_; intro v2 w2 hown2 hg2 hat2; obtain ⟨A2, c2, rfl, -⟩ := own_sl hown2; have hB2 := ((Below.refl w1.heap.size w1).alloc (Nat.le_refl _) _).grown hg2 (by simp) (fun q e => by simp [Value.ownBlock] at e; omega); have hz2' := hB2.size; obtain ⟨A', c', e', hs2⟩ := (ha0.after (hbel1.trans (hB2.mono hz1'))).now; cases e'))
    | (go_at_call 49; refine (refNumber_any l.length 2 _ (by omega) (by omega)).mono ?_; rintro e w1 ⟨u1, rfl, hown1, hbel1⟩; obtain ⟨A1, c1, rfl, hs1⟩ := own_sl hown1; have hz1' := hbel1.size))
  go_ret2
  refine ⟨v7, rfl, ?_, hB6.grown hg7 hz6 (fun q e => (hown6.lt q e).1)⟩
  have e : (frameOf l).map bv = List.map bv (num l.length 2) ++ List.map bv (num S 4) ++ List.map bv l := by simp [frameOf, HS.out]
  rw [e, show l.length + 6 = 2 + 4 + l.length by omega]
  exact hown7
end Go.Proofs.YtciolppoanfiaaaDoor
