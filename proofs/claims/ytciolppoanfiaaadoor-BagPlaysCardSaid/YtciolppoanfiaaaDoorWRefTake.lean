import Derived.Test.YtciolppoanfiaaaDoorWTake
import Derived.Test.YtciolppoanfiaaaDoorWRefOf
import Derived.Deep.RegionLaw
import Derived.Deep.DeepCutAuto
import Derived.Deep.QuietTactic
import Derived.BigQuiet
namespace Go.Proofs.YtciolppoanfiaaaDoor
open Go.RowKit

theorem refSum_val {u : Value} {xs : List UInt8} {w : World} {S : Nat} (ha : Bytes w u xs) (h : Crc.sum xs = S) :
    Calls Tryd.prog 16 #[u] w fun e w' => e = .returned (.int .u32 (S : Int)) ∧ Below w.heap.size w w' := by
  rw [← h]
  exact (refSum_v ha).mono fun _ _ ⟨h1, h2⟩ => ⟨h1, h2 ▸ Below.refl _ _⟩
theorem of_val {v : Value} {l : List UInt8} {N : Nat} (w : World) (ha : Bytes w v l) (hl : l.length ≤ 8) (h : le l = N) :
    Calls Tryd.prog 53 #[v] w fun e w' => e = .returned (.int .u64 (N : Int)) ∧ w = w' := by
  subst h
  exact of_any w ha hl

set_option maxRecDepth 100000 in
set_option maxHeartbeats 800000 in
theorem refTake_short {v : Value} {l : List UInt8} (w : World) (ha : Bytes w v l) (h6 : l.length < 6) :
    Calls Tryd.prog 19 #[v] w fun e w' => e = .returned (.tuple #[.slice none 0 0, .slice none 0 0, .int .i64 10]) ∧ w = w' := by
  obtain ⟨_, _, A, c, rfl, hs⟩ := ha
  clear hs
  generalize l.length = m at h6
  go_enter Tryd.func19, Tryd.ntmps19
  go_wp2
  refine bodyPost_ret (results_tmp3 rfl _ _ _) rfl ?_
  exact ⟨rfl, rfl⟩

set_option maxRecDepth 100000 in
set_option maxHeartbeats 800000 in
theorem refTake_few {v : Value} {l : List UInt8} (w : World) (ha : Bytes w v l) (h6 : 6 ≤ l.length) (E : Nat) (hE : (1000 < le (l.take 2) ∧ E = 2) ∨ (le (l.take 2) ≤ 1000 ∧ l.length < 6 + le (l.take 2) ∧ E = 10)) :
    Calls Tryd.prog 19 #[v] w fun e w' => e = .returned (.tuple #[.slice none 0 0, .slice none 0 0, .int .i64 (E : Int)]) ∧ w = w' := by
  obtain ⟨_, _, A, c, rfl, hs⟩ := ha
  have hm := hs.max
  have hc := hs.cap
  have hN := le_bound (l.take 2) 2 (by simp; omega)
  have e2 : (256 : Nat) ^ 2 = 65536 := by decide
  rw [e2] at hN
  clear e2
  obtain ⟨N, hNd⟩ : ∃ N, le (l.take 2) = N := ⟨_, rfl⟩
  rw [hNd] at hN hE
  have HN := Lib.hid hNd
  clear hNd
  obtain ⟨i0, hi0, hz0, hz1, hz2⟩ := info_parts u8_info
  obtain ⟨A2, hA2, hcut2⟩ := cut_h 22 5 i0 Tryd.underlying22 hi0 A l.length c 2 2 (by omega) (by omega) (by omega)
  have s2 := hs.subB (k := 0) (m := 2) (c' := c) (A' := A2) (by omega) (by omega) hm (fun h => by rw [hA2 h, map_add0])
  rw [List.drop_zero] at s2
  have S2 := Lib.hid s2.bytes
  clear hA2 s2 hs
  have Hl2 : Hid ((l.take 2).length ≤ 8) := by show _ ≤ _; simp; omega
  rcases hE with ⟨hbig, rfl⟩ | ⟨hbig, hfew, rfl⟩
  all_goals
    go_enter Tryd.func19, Tryd.ntmps19
    go_wp2_with (go_at_call 53; refine (of_val _ S2.out Hl2.out HN.out).mono ?_; rintro e w' ⟨rfl, rfl⟩)
    refine bodyPost_ret (results_tmp3 rfl _ _ _) rfl ?_
    exact ⟨rfl, rfl⟩

set_option maxRecDepth 100000 in
set_option maxHeartbeats 3200000 in
theorem refTake_sum {v : Value} {l : List UInt8} (w : World) {lo hi : Nat} (haI : BytesIn w lo hi v l) (hbig : le (l.take 2) ≤ 1000) (hfew : 6 + le (l.take 2) ≤ l.length) :
    Calls Tryd.prog 19 #[v] w fun e w' => ∃ A c B d E, e = .returned (.tuple #[.slice A (tP l).length c, .slice B (tR l).length d, .int .i64 E]) ∧ E = (takeE l : Int) ∧
      BytesIn w' lo hi (.slice A (tP l).length c) (tP l) ∧ BytesIn w' lo hi (.slice B (tR l).length d) (tR l) ∧ Below w.heap.size w w' := by
  have h6 : 6 ≤ l.length := by omega
  have hP : takeP l = (l.drop 6).take (le (l.take 2)) := rfl
  have hR : takeR l = l.drop (6 + le (l.take 2)) := rfl
  have hEE : takeE l = if Crc.sum (l.take 2 ++ (l.drop 6).take (le (l.take 2))) = le ((l.drop 2).take 4) then 0 else 20 := by
    unfold takeE
    rw [if_neg (by omega), if_neg (by omega), if_neg (by omega)]
    by_cases h : Crc.sum (l.take 2 ++ (l.drop 6).take (le (l.take 2))) = le ((l.drop 2).take 4)
    · rw [if_pos h, if_neg (fun h' => h' h)]
    · rw [if_neg h, if_pos h]
  have ha0 := haI
  obtain ⟨A, c, rfl, hs⟩ := haI
  have hm := hs.max
  have hc := hs.cap
  have hN := le_bound (l.take 2) 2 (by simp; omega)
  have hM := le_bound ((l.drop 2).take 4) 4 (by simp; omega)
  have e2 : (256 : Nat) ^ 2 = 65536 := by decide
  have e4 : (256 : Nat) ^ 4 = 4294967296 := by decide
  rw [e2] at hN
  rw [e4] at hM
  clear e2 e4
  obtain ⟨N, hNd⟩ : ∃ N, le (l.take 2) = N := ⟨_, rfl⟩
  obtain ⟨M, hMd⟩ : ∃ M, le ((l.drop 2).take 4) = M := ⟨_, rfl⟩
  rw [hNd] at hN hbig hfew hP hR hEE
  rw [hMd] at hM hEE
  have HN := Lib.hid hNd
  have HM := Lib.hid hMd
  clear hNd hMd
  have hlenN : ((l.drop 6).take N).length = N := by simp; omega
  obtain ⟨i0, hi0, hz0, hz1, hz2⟩ := info_parts u8_info
  obtain ⟨A2, hA2, hcut2⟩ := cut_h 22 5 i0 Tryd.underlying22 hi0 A l.length c 2 2 (by omega) (by omega) (by omega)
  obtain ⟨A3, hA3, hcut3⟩ := cut_lh 22 5 i0 1 Tryd.underlying22 hi0 hz1 A l.length c 2 6 4 (c - 2) (by omega) (by omega) (by omega) (by omega) (by omega)
  obtain ⟨A6, hA6, hcut6⟩ := cut_lh 22 5 i0 1 Tryd.underlying22 hi0 hz1 A l.length c 6 (6 + (N : Int)) N (c - 6) (by omega) (by omega) (by omega) (by omega) (by omega)
  obtain ⟨A7, hA7, hcut7⟩ := cut_l 22 5 i0 1 Tryd.underlying22 hi0 hz1 A l.length c (6 + (N : Int)) (l.length - (6 + N)) (c - (6 + N)) (by omega) (by omega) hc (by omega) (by omega)
  have s2 := hs.subB (k := 0) (m := 2) (c' := c) (A' := A2) (by omega) (by omega) hm (fun h => by rw [hA2 h, map_add0])
  have s3 := hs.subB (k := 2) (m := 4) (c' := c - 2) (A' := A3) (by omega) (by omega) (by omega) hA3
  have s6 := hs.subB (k := 6) (m := N) (c' := c - 6) (A' := A6) (by omega) (by omega) (by omega) hA6
  have s7 := hs.subB (k := 6 + N) (m := l.length - (6 + N)) (c' := c - (6 + N)) (A' := A7) (by omega) (by omega) (by omega) (fun h => by rw [hA7 h, show (6 + (N : Int)).toNat * 1 = 6 + N by omega])
  rw [List.drop_zero] at s2
  rw [List.take_of_length_le (by simp)] at s7
  have S2 := Lib.hid s2
  have S3 := Lib.hid s3
  have S6 := Lib.hid s6
  have S7 := Lib.hid s7.bytesIn
  have hl7 : (l.drop (6 + N)).length = l.length - (6 + N) := by simp
  have Hl7 := Lib.hid hl7
  have HlN := Lib.hid hlenN
  have Hl2 : Hid ((l.take 2).length ≤ 8) := by show _ ≤ _; simp; omega
  have Hl4 : Hid (((l.drop 2).take 4).length ≤ 8) := by show _ ≤ _; simp; omega
  clear hA2 hA3 hA6 hA7 s2 s3 s6 s7 hs hl7 hlenN
  have hw6 : IntKind.i64.wrap (6 + (N : Int)) = 6 + (N : Int) := by rw [IntKind.wrap_i64]; omega
  generalize l.length - (6 + N) = m7 at hcut7 S7 Hl7
  generalize c - (6 + N) = c7 at hcut7 S7
  obtain ⟨S, hSd⟩ : ∃ S, Crc.sum (l.take 2 ++ (l.drop 6).take N) = S := ⟨_, rfl⟩
  have hS := Crc.sum_lt (l.take 2 ++ (l.drop 6).take N)
  rw [hSd] at hS hEE
  have HS := Lib.hid hSd
  have HEE := Lib.hid hEE
  clear hSd hEE
  go_enter Tryd.func19, Tryd.ntmps19
  go_wp2_with (go_at_call 53; refine (of_val _ S2.out.bytes Hl2.out HN.out).mono ?_; rintro e w' ⟨rfl, rfl⟩)
  go_cut [6] (fun v6 w' => v6 = .int .u32 (S : Int) ∧ Below w.heap.size w w')
  case first =>
    clear hcut3 hcut7 S3 S7 ha0 HEE
    go_region_law (first
      | (have _g := hB2; refine step_app _ rfl (.tmp 24) (.tmp 28) 22 rfl w.heap.size 5 i0 _ 1 1 Tryd.underlying22 hi0 hz0 hz1 hz2 rfl (by omega) (.slice B2 (0 + 2) d2) (0 + 2) _ (by simp [Act.eval]) hown2 _ _ A6 N (c - 6) _ (by simp [Act.eval]) (S6.out.after (by decide) hB2) (bv_one _) (by simp only [maxLen]; omega) (by omega) hB2.size ?_; intro v3 w3 hown3 hg3 hat3; have hB3 := hB2.grown hg3 hB2.size (fun q e => (hown2.lt q e).1); have hu3 : Bytes w3 v3 (l.take 2 ++ (l.drop 6).take N) := own_bytes (by simpa using hown3))
      | (refine step_app _ rfl (.tmp 21) (.tmp 23) 22 rfl w.heap.size 5 i0 _ 1 1 Tryd.underlying22 hi0 hz0 hz1 hz2 rfl (by omega) (.slice (some ⟨w.heap.size, 0, none⟩) 0 0) 0 [] (by simp [Act.eval]) (by exact own_empty w w.heap.size 1 5 rfl) lo hi A2 2 c ((l.take 2).map bv) (by simp [Act.eval]) (by first | exact S2.out.alloc (by decide) _ | exact (S2.out.alloc (by decide) _).drew) (bv_one _) (by simp only [maxLen]; omega) (by omega) (by simp) ?_; intro v2 w2 hown2 hg2 hat2; obtain ⟨B2, d2, rfl, -⟩ := own_sl hown2; have hB2 : Below w.heap.size w w2 := (((Below.refl w.heap.size w).alloc (Nat.le_refl _) _).drew).grown hg2 (by simp) (fun q e => by simp [Value.ownBlock] at e; omega))
      | (go_simp; go_at_call 16; refine (refSum_val hu3 HS.out).mono ?_; rintro e w4 ⟨rfl, hb4⟩))
    all_goals
      go_wp2
      go_meet
      exact ⟨rfl, hB3.trans (hb4.mono hB3.size)⟩
  case rest =>
    obtain ⟨rfl, hb1⟩ := hcut
    rcases Decidable.em (S = M) with hSM | hSM
    · have hne : ((S : Int) != (M : Int)) = false := by simp; omega
      go_wp2_with (go_at_call 53; refine (of_val _ (S3.out.bytes.after hb1) Hl4.out HM.out).mono ?_; rintro e w' ⟨rfl, rfl⟩)
      go_quiet (fail)
      go_wp2
      refine bodyPost_ret (results_tmp3 rfl _ _ _) rfl ?_
      have hE0 : takeE l = 0 := by rw [HEE.out, if_pos hSM]
      have eP : tP l = (l.drop 6).take N := by unfold tP; rw [if_pos hE0, hP]
      have eR : tR l = l.drop (6 + N) := by unfold tR; rw [if_pos hE0, hR]
      rw [eP, eR, hE0, HlN.out, Hl7.out]
      exact ⟨A6, c - 6, A7, c7, 0, rfl, rfl, ((S6.out.bytesIn.after hb1).drewN _), (S7.out.after hb1).drewN _, below_drewN hb1 _⟩
    · have hne : ((S : Int) != (M : Int)) = true := by simp; omega
      go_wp2_with (go_at_call 53; refine (of_val _ (S3.out.bytes.after hb1) Hl4.out HM.out).mono ?_; rintro e w' ⟨rfl, rfl⟩)
      refine bodyPost_ret (results_tmp3 rfl _ _ _) rfl ?_
      have hE0 : takeE l = 20 := by rw [HEE.out, if_neg hSM]
      have eP : tP l = [] := by unfold tP; rw [if_neg (by omega)]
      have eR : tR l = [] := by unfold tR; rw [if_neg (by omega)]
      rw [eP, eR, hE0]
      exact ⟨none, 0, none, 0, 20, rfl, rfl, bytes_none _ _ _, bytes_none _ _ _, hb1⟩

theorem refTake_tot {v : Value} {l : List UInt8} (w : World) {lo hi : Nat} (ha : BytesIn w lo hi v l) :
    Calls Tryd.prog 19 #[v] w fun e w' => ∃ A c B d, e = .returned (.tuple #[.slice A (tP l).length c, .slice B (tR l).length d, .int .i64 (takeE l : Int)]) ∧
      BytesIn w' lo hi (.slice A (tP l).length c) (tP l) ∧ BytesIn w' lo hi (.slice B (tR l).length d) (tR l) ∧ Below w.heap.size w w' := by
  have bad : ∀ E : Nat, E ≠ 0 → takeE l = E → (Calls Tryd.prog 19 #[v] w fun e w' => e = .returned (.tuple #[.slice none 0 0, .slice none 0 0, .int .i64 (E : Int)]) ∧ w = w') →
      Calls Tryd.prog 19 #[v] w fun e w' => ∃ A c B d, e = .returned (.tuple #[.slice A (tP l).length c, .slice B (tR l).length d, .int .i64 (takeE l : Int)]) ∧
      BytesIn w' lo hi (.slice A (tP l).length c) (tP l) ∧ BytesIn w' lo hi (.slice B (tR l).length d) (tR l) ∧ Below w.heap.size w w' := by
    intro E hE hEl h
    have e1 : tP l = [] := by unfold tP; rw [if_neg (by omega)]
    have e2 : tR l = [] := by unfold tR; rw [if_neg (by omega)]
    rw [e1, e2, hEl]
    exact h.mono fun e w' ⟨h1, h2⟩ => ⟨none, 0, none, 0, h1, bytes_none w' lo hi, bytes_none w' lo hi, h2 ▸ Below.refl _ _⟩
  rcases takeE_cases l with ⟨h1, hE⟩ | ⟨h1, h2, hE⟩ | ⟨h1, h2, h3, hE⟩ | ⟨h2, h3, h4, hE⟩ | ⟨h2, h3, h4, hE⟩
  · exact bad 10 (by decide) hE (refTake_short w ha.bytes h1)
  · exact bad 2 (by decide) hE (refTake_few w ha.bytes h1 2 (.inl ⟨h2, rfl⟩))
  · exact bad 10 (by decide) hE (refTake_few w ha.bytes h1 10 (.inr ⟨h2, h3, rfl⟩))
  all_goals
    refine (refTake_sum w ha h2 h3).mono ?_
    rintro e w' ⟨A, c, B, d, E, rfl, rfl, h5, h6, h7⟩
    exact ⟨A, c, B, d, rfl, h5, h6, h7⟩
end Go.Proofs.YtciolppoanfiaaaDoor
