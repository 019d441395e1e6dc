/- ClockLast. -/
import Derived.Test.YtcocakbopbehjaaClkAwake
namespace Go.Proofs.Ytcocakbopbehjaa
open Go.RowKit
set_option maxRecDepth 100000 in
set_option maxHeartbeats 6400000 in
theorem clockLast_any (w : World) {one two : Nat} (h1 : one < 18446744073709551616) (h2 : two < 18446744073709551616) :
    Calls Try.prog 4 #[.int .u64 (one : Int), .int .u64 (two : Int)] w fun e w' => e = .returned (.bool true) ∧ Below w.heap.size w w' := by
  by_cases hb1 : 1152921504606846976 ≤ one
  · have k1 : decide ((1152921504606846976 : Int) ≤ (one : Int)) = true := decide_eq_true (by omega)
    clear hb1 h1 h2
    go_enter Try.func4, Try.ntmps4
    go_wp2_with fail
    refine (awake8_any _).mono ?_
    rintro e w0 ⟨rfl, b0⟩
    go_wp2_with fail
    refine (cnew_ok w.heap.size 1 w0 (by decide) (by decide) b0.size).mono ?_
    rintro e w1 ⟨g, O, rfl, -, -, b1⟩
    go_wp2
    go_ret
    exact ⟨rfl, b0.trans (b1.mono b0.size)⟩
  have k1 : decide ((1152921504606846976 : Int) ≤ (one : Int)) = false := decide_eq_false (by omega)
  by_cases hb2 : 1152921504606846976 ≤ two
  · have k2 : decide ((1152921504606846976 : Int) ≤ (two : Int)) = true := decide_eq_true (by omega)
    clear hb1 hb2 h1 h2
    go_enter Try.func4, Try.ntmps4
    go_wp2_with fail
    refine (awake8_any _).mono ?_
    rintro e w0 ⟨rfl, b0⟩
    go_wp2_with fail
    refine (cnew_ok w.heap.size 1 w0 (by decide) (by decide) b0.size).mono ?_
    rintro e w1 ⟨g, O, rfl, -, -, b1⟩
    go_wp2
    go_ret
    exact ⟨rfl, b0.trans (b1.mono b0.size)⟩
  have k2 : decide ((1152921504606846976 : Int) ≤ (two : Int)) = false := decide_eq_false (by omega)
  have hs1 : Hid (pn0.set 1 one = (⟨0, [(1, one)], false⟩, 0)) := by show _ = _; simp [pn0, PN.set, fidx, show ¬ 18446744073709551616 ≤ one by omega]
  have hs2 : Hid (PN.set ⟨0, [(1, one)], false⟩ 2 one = (⟨0, [(1, one), (2, one)], false⟩, 0)) := by show _ = _; simp [PN.set, fidx, List.findIdx_cons, show ¬ 18446744073709551616 ≤ one by omega]
  have hs3 : Hid (PN.set ⟨0, [(1, one), (2, one)], false⟩ 1 two = (⟨0, [(1, two), (2, one)], false⟩, 0)) := by show _ = _; simp [PN.set, fidx, List.findIdx_cons, show ¬ 18446744073709551616 ≤ two by omega]
  have ht1 : Hid (PN.stop ⟨0, [(1, two), (2, one)], false⟩ 2 = (⟨0, [(1, two)], false⟩, 0)) := by show _ = _; simp [PN.stop, fidx, List.findIdx_cons]
  have ht2 : Hid (PN.stop ⟨0, [(1, two)], false⟩ 2 = (⟨0, [(1, two)], false⟩, 41)) := by show _ = _; simp [PN.stop, fidx, List.findIdx_cons]
  have hd2 : Hid (tsort (lates ⟨two, [(1, two)], false⟩) = [(1, two)]) := by show _ = _; simp [lates, lateb, tsort, tins]
  have hr2 : Hid (rests ⟨two, [(1, two)], false⟩ = []) := by show _ = _; simp [rests, lateb]
  have ho : Hid (one < 18446744073709551616 ∧ two < 18446744073709551616) := ⟨h1, h2⟩
  have hu : Hid (two + 2305843009213693952 < 18446744073709551616) := by show _ < _; omega
  by_cases hz : two = 0
  · subst hz
    clear hb1 hb2 h1 h2
    go_enter Try.func4, Try.ntmps4
    go_wp2_with fail
    refine (awake8_any _).mono ?_
    rintro e w0 ⟨rfl, b0⟩
    have B0 := Lib.hid b0
    clear b0
    go_wp2_with fail
    refine (cnew_ok w.heap.size 1 w0 (by decide) (by decide) (B0.out.size)).mono ?_
    rintro e w1 ⟨g1, O1, rfl, K1, l1, b1⟩
    have K1' : ClkAt w.heap.size w1 O1 g1 [pn0] := K1
    have HKc1 := Lib.hid K1'
    have L1 := Lib.hid l1
    have B1 := Lib.hid (B0.out.trans (b1.mono B0.out.size))
    clear K1 K1' l1 b1
    go_wp2_with fail
    refine (cset_eq 0 (1) one w1 HKc1.out (p' := ⟨0, [(1, one)], false⟩) (E := 0) rfl ho.out.1 (hs1.out) rfl).mono ?_
    rintro e w2 ⟨rfl, O2, K2, s2, c2⟩
    have K2' : ClkAt w.heap.size w2 O2 g1 [⟨0, [(1, one)], false⟩] := K2
    have HKc2 := Lib.hid K2'
    have B2 := Lib.hid (B1.out.trans (c2.toBelow HKc1.out.low B1.out.size))
    clear K2 K2' s2 c2 HKc1
    go_wp2_with fail
    refine (cset_eq 0 (2) one w2 HKc2.out (p' := ⟨0, [(1, one), (2, one)], false⟩) (E := 0) rfl ho.out.1 (hs2.out) rfl).mono ?_
    rintro e w3 ⟨rfl, O3, K3, s3, c3⟩
    have K3' : ClkAt w.heap.size w3 O3 g1 [⟨0, [(1, one), (2, one)], false⟩] := K3
    have HKc3 := Lib.hid K3'
    have B3 := Lib.hid (B2.out.trans (c3.toBelow HKc2.out.low B2.out.size))
    clear K3 K3' s3 c3 HKc2
    go_wp2_with fail
    refine (cset_eq 0 (1) 0 w3 HKc3.out (p' := ⟨0, [(1, 0), (2, one)], false⟩) (E := 0) rfl ho.out.2 (hs3.out) rfl).mono ?_
    rintro e w4 ⟨rfl, O4, K4, s4, c4⟩
    have K4' : ClkAt w.heap.size w4 O4 g1 [⟨0, [(1, 0), (2, one)], false⟩] := K4
    have HKc4 := Lib.hid K4'
    have B4 := Lib.hid (B3.out.trans (c4.toBelow HKc3.out.low B3.out.size))
    clear K4 K4' s4 c4 HKc3
    go_wp2_with fail
    refine (cstop_eq 0 (2) w4 HKc4.out (p' := ⟨0, [(1, 0)], false⟩) (E := 0) rfl (ht1.out) rfl).mono ?_
    rintro e w5 ⟨rfl, O5, K5, s5, c5⟩
    have K5' : ClkAt w.heap.size w5 O5 g1 [⟨0, [(1, 0)], false⟩] := K5
    have HKc5 := Lib.hid K5'
    have B5 := Lib.hid (B4.out.trans (c5.toBelow HKc4.out.low B4.out.size))
    clear K5 K5' s5 c5 HKc4
    go_wp2_with fail
    refine (cstop_eq 0 (2) w5 HKc5.out (p' := ⟨0, [(1, 0)], false⟩) (E := 41) rfl (ht2.out) rfl).mono ?_
    rintro e w6 ⟨rfl, O6, K6, s6, c6⟩
    have K6' : ClkAt w.heap.size w6 O6 g1 [⟨0, [(1, 0)], false⟩] := K6
    have HKc6 := Lib.hid K6'
    have B6 := Lib.hid (B5.out.trans (c6.toBelow HKc5.out.low B5.out.size))
    clear K6 K6' s6 c6 HKc5
    go_wp2_with fail
    refine (cdue_eq 0 w6 HKc6.out rfl rfl (l := [(1, 0)]) (hd2.out) (hr2.out) rfl).mono ?_
    rintro e w7 ⟨v7, O7, rfl, R7, K7, s7, c7, a7⟩
    clear a7
    obtain ⟨A7, q7, hv7, -⟩ := own_sl R7.own
    replace hv7 : v7 = .slice A7 1 q7 := hv7
    subst hv7
    have HR7 := Lib.hid R7
    clear R7
    have K7' : ClkAt w.heap.size w7 O7 g1 [⟨0, [], false⟩] := K7
    have HKc7 := Lib.hid K7'
    have B7 := Lib.hid (B6.out.trans (c7.toBelow HKc6.out.low B6.out.size))
    clear K7 K7' s7 c7 HKc6
    go_wp2_with fail
    refine (ctick_eq 0 2305843009213693952 w7 HKc7.out rfl (t := 2305843009213693952) (rfl) hu.out rfl).mono ?_
    rintro e w8 ⟨rfl, O8, K8, s8, c8⟩
    have Rd8 : Hid (Res w8 O8 (.slice A7 1 q7) [(1, 0)]) := HR7.out.chg c8 s8
    clear HR7
    have K8' : ClkAt w.heap.size w8 O8 g1 [⟨2305843009213693952, [], false⟩] := K8
    have HKc8 := Lib.hid K8'
    have B8 := Lib.hid (B7.out.trans (c8.toBelow HKc7.out.low B7.out.size))
    clear K8 K8' s8 c8 HKc7
    go_wp2_with fail
    refine (cdue_eq 0 w8 HKc8.out rfl rfl (l := []) (rfl) (rfl) rfl).mono ?_
    rintro e w9 ⟨v9, O9, rfl, R9, K9, s9, c9, a9⟩
    clear a9
    obtain ⟨A9, q9, hv9, -⟩ := own_sl R9.own
    replace hv9 : v9 = .slice A9 0 q9 := hv9
    subst hv9
    have HR9 := Lib.hid R9
    clear R9
    have Rd9 : Hid (Res w9 O9 (.slice A7 1 q7) [(1, 0)]) := Rd8.out.chg c9 s9
    clear Rd8
    have K9' : ClkAt w.heap.size w9 O9 g1 [⟨2305843009213693952, [], false⟩] := K9
    have HKc9 := Lib.hid K9'
    have B9 := Lib.hid (B8.out.trans (c9.toBelow HKc8.out.low B8.out.size))
    clear K9 K9' s9 c9 HKc8
    have SY := Rd9.out.sl.alloc (by decide) (.cells #[.int .i64 1] 3)
    have SN := sl_one w9 (.int .i64 1) 3
    have C1 := numbers_eq [1] [1] _ true SY SN rfl
    have HC1 := Lib.hid C1
    clear SY SN C1
    go_wp2_with fail
    refine HC1.out.mono ?_
    rintro e _ ⟨rfl, qq, rfl⟩
    go_wp2
    go_ret
    exact ⟨rfl, below_drewN (B9.out.alloc B9.out.size _) qq⟩
  · obtain ⟨t, ht⟩ : ∃ t, two - 1 = t := ⟨_, rfl⟩
    have htt : Hid (t + 1 = two) := by show _ = _; omega
    have hpos : 0 < two := by omega
    have htb : Hid (t < 18446744073709551616) := by show _ < _; omega
    have hw : IntKind.u64.wrap ((two : Int) - 1) = (t : Int) := by rw [IntKind.wrap_u64]; omega
    have hd1 : Hid (tsort (lates ⟨t, [(1, two)], false⟩) = []) := by show _ = _; simp [lates, lateb, tsort, show ¬ two ≤ t by omega]
    have hr1 : Hid (rests ⟨t, [(1, two)], false⟩ = [(1, two)]) := by show _ = _; simp [rests, lateb, show ¬ two ≤ t by omega]
    clear hb1 hb2 h1 h2 ht hz
    go_enter Try.func4, Try.ntmps4
    go_wp2_with fail
    refine (awake8_any _).mono ?_
    rintro e w0 ⟨rfl, b0⟩
    have B0 := Lib.hid b0
    clear b0
    go_wp2_with fail
    refine (cnew_ok w.heap.size 1 w0 (by decide) (by decide) (B0.out.size)).mono ?_
    rintro e w1 ⟨g1, O1, rfl, K1, l1, b1⟩
    have K1' : ClkAt w.heap.size w1 O1 g1 [pn0] := K1
    have HKc1 := Lib.hid K1'
    have L1 := Lib.hid l1
    have B1 := Lib.hid (B0.out.trans (b1.mono B0.out.size))
    clear K1 K1' l1 b1
    go_wp2_with fail
    refine (cset_eq 0 (1) one w1 HKc1.out (p' := ⟨0, [(1, one)], false⟩) (E := 0) rfl ho.out.1 (hs1.out) rfl).mono ?_
    rintro e w2 ⟨rfl, O2, K2, s2, c2⟩
    have K2' : ClkAt w.heap.size w2 O2 g1 [⟨0, [(1, one)], false⟩] := K2
    have HKc2 := Lib.hid K2'
    have B2 := Lib.hid (B1.out.trans (c2.toBelow HKc1.out.low B1.out.size))
    clear K2 K2' s2 c2 HKc1
    go_wp2_with fail
    refine (cset_eq 0 (2) one w2 HKc2.out (p' := ⟨0, [(1, one), (2, one)], false⟩) (E := 0) rfl ho.out.1 (hs2.out) rfl).mono ?_
    rintro e w3 ⟨rfl, O3, K3, s3, c3⟩
    have K3' : ClkAt w.heap.size w3 O3 g1 [⟨0, [(1, one), (2, one)], false⟩] := K3
    have HKc3 := Lib.hid K3'
    have B3 := Lib.hid (B2.out.trans (c3.toBelow HKc2.out.low B2.out.size))
    clear K3 K3' s3 c3 HKc2
    go_wp2_with fail
    refine (cset_eq 0 (1) two w3 HKc3.out (p' := ⟨0, [(1, two), (2, one)], false⟩) (E := 0) rfl ho.out.2 (hs3.out) rfl).mono ?_
    rintro e w4 ⟨rfl, O4, K4, s4, c4⟩
    have K4' : ClkAt w.heap.size w4 O4 g1 [⟨0, [(1, two), (2, one)], false⟩] := K4
    have HKc4 := Lib.hid K4'
    have B4 := Lib.hid (B3.out.trans (c4.toBelow HKc3.out.low B3.out.size))
    clear K4 K4' s4 c4 HKc3
    go_wp2_with fail
    refine (cstop_eq 0 (2) w4 HKc4.out (p' := ⟨0, [(1, two)], false⟩) (E := 0) rfl (ht1.out) rfl).mono ?_
    rintro e w5 ⟨rfl, O5, K5, s5, c5⟩
    have K5' : ClkAt w.heap.size w5 O5 g1 [⟨0, [(1, two)], false⟩] := K5
    have HKc5 := Lib.hid K5'
    have B5 := Lib.hid (B4.out.trans (c5.toBelow HKc4.out.low B4.out.size))
    clear K5 K5' s5 c5 HKc4
    go_wp2_with fail
    refine (cstop_eq 0 (2) w5 HKc5.out (p' := ⟨0, [(1, two)], false⟩) (E := 41) rfl (ht2.out) rfl).mono ?_
    rintro e w6 ⟨rfl, O6, K6, s6, c6⟩
    have K6' : ClkAt w.heap.size w6 O6 g1 [⟨0, [(1, two)], false⟩] := K6
    have HKc6 := Lib.hid K6'
    have B6 := Lib.hid (B5.out.trans (c6.toBelow HKc5.out.low B5.out.size))
    clear K6 K6' s6 c6 HKc5
    go_wp2_with fail
    refine (ctick_eq 0 t w6 HKc6.out rfl (t := t) (Nat.zero_add _) htb.out rfl).mono ?_
    rintro e w7 ⟨rfl, O7, K7, s7, c7⟩
    have K7' : ClkAt w.heap.size w7 O7 g1 [⟨t, [(1, two)], false⟩] := K7
    have HKc7 := Lib.hid K7'
    have B7 := Lib.hid (B6.out.trans (c7.toBelow HKc6.out.low B6.out.size))
    clear K7 K7' s7 c7 HKc6
    go_wp2_with fail
    refine (cdue_eq 0 w7 HKc7.out rfl rfl (l := []) (hd1.out) (hr1.out) rfl).mono ?_
    rintro e w8 ⟨v8, O8, rfl, R8, K8, s8, c8, a8⟩
    clear a8
    obtain ⟨A8, q8, hv8, -⟩ := own_sl R8.own
    replace hv8 : v8 = .slice A8 0 q8 := hv8
    subst hv8
    have HR8 := Lib.hid R8
    clear R8
    have K8' : ClkAt w.heap.size w8 O8 g1 [⟨t, [(1, two)], false⟩] := K8
    have HKc8 := Lib.hid K8'
    have B8 := Lib.hid (B7.out.trans (c8.toBelow HKc7.out.low B7.out.size))
    clear K8 K8' s8 c8 HKc7
    go_wp2_with fail
    refine (ctick_eq 0 1 w8 HKc8.out rfl (t := two) (htt.out) ho.out.2 rfl).mono ?_
    rintro e w9 ⟨rfl, O9, K9, s9, c9⟩
    have K9' : ClkAt w.heap.size w9 O9 g1 [⟨two, [(1, two)], false⟩] := K9
    have HKc9 := Lib.hid K9'
    have B9 := Lib.hid (B8.out.trans (c9.toBelow HKc8.out.low B8.out.size))
    clear K9 K9' s9 c9 HKc8
    go_wp2_with fail
    refine (cdue_eq 0 w9 HKc9.out rfl rfl (l := [(1, two)]) (hd2.out) (hr2.out) rfl).mono ?_
    rintro e w10 ⟨v10, O10, rfl, R10, K10, s10, c10, a10⟩
    clear a10
    obtain ⟨A10, q10, hv10, -⟩ := own_sl R10.own
    replace hv10 : v10 = .slice A10 1 q10 := hv10
    subst hv10
    have HR10 := Lib.hid R10
    clear R10
    have K10' : ClkAt w.heap.size w10 O10 g1 [⟨two, [], false⟩] := K10
    have HKc10 := Lib.hid K10'
    have B10 := Lib.hid (B9.out.trans (c10.toBelow HKc9.out.low B9.out.size))
    clear K10 K10' s10 c10 HKc9
    go_wp2_with fail
    refine (ctick_eq 0 2305843009213693952 w10 HKc10.out rfl (t := two + 2305843009213693952) (rfl) hu.out rfl).mono ?_
    rintro e w11 ⟨rfl, O11, K11, s11, c11⟩
    have Rd11 : Hid (Res w11 O11 (.slice A10 1 q10) [(1, two)]) := HR10.out.chg c11 s11
    clear HR10
    have K11' : ClkAt w.heap.size w11 O11 g1 [⟨(two + 2305843009213693952), [], false⟩] := K11
    have HKc11 := Lib.hid K11'
    have B11 := Lib.hid (B10.out.trans (c11.toBelow HKc10.out.low B10.out.size))
    clear K11 K11' s11 c11 HKc10
    go_wp2_with fail
    refine (cdue_eq 0 w11 HKc11.out rfl rfl (l := []) (rfl) (rfl) rfl).mono ?_
    rintro e w12 ⟨v12, O12, rfl, R12, K12, s12, c12, a12⟩
    clear a12
    obtain ⟨A12, q12, hv12, -⟩ := own_sl R12.own
    replace hv12 : v12 = .slice A12 0 q12 := hv12
    subst hv12
    have HR12 := Lib.hid R12
    clear R12
    have Rd12 : Hid (Res w12 O12 (.slice A10 1 q10) [(1, two)]) := Rd11.out.chg c12 s12
    clear Rd11
    have K12' : ClkAt w.heap.size w12 O12 g1 [⟨(two + 2305843009213693952), [], false⟩] := K12
    have HKc12 := Lib.hid K12'
    have B12 := Lib.hid (B11.out.trans (c12.toBelow HKc11.out.low B11.out.size))
    clear K12 K12' s12 c12 HKc11
    have SY := Rd12.out.sl.alloc (by decide) (.cells #[.int .i64 1] 3)
    have SN := sl_one w12 (.int .i64 1) 3
    have C1 := numbers_eq [1] [1] _ true SY SN rfl
    have HC1 := Lib.hid C1
    clear SY SN C1
    go_wp2_with fail
    refine HC1.out.mono ?_
    rintro e _ ⟨rfl, qq, rfl⟩
    go_wp2
    go_ret
    exact ⟨rfl, below_drewN (B12.out.alloc B12.out.size _) qq⟩
end Go.Proofs.Ytcocakbopbehjaa
