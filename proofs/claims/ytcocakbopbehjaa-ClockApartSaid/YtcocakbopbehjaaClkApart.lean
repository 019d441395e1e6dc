/- ClockApart. -/
import Derived.Test.YtcocakbopbehjaaClkAwake
import Derived.Test.YtcocakbopbehjaaClkOp
namespace Go.Proofs.Ytcocakbopbehjaa
open Go.RowKit
set_option maxRecDepth 100000 in
set_option maxHeartbeats 12800000 in
theorem clockApart_any (w : World) {vo : Value} {os : List COp} (hO : Ops w vo os) {after : Nat} (ha : after < 18446744073709551616) :
    Calls Try.prog 6 #[vo, .int .u64 (after : Int)] w fun e w' => e = .returned (.bool true) ∧ Below w.heap.size w w' := by
  obtain ⟨A, c, lo, hi, rfl, hs, hob⟩ := hO
  obtain ⟨N, hN⟩ : ∃ N, os.length = N := ⟨_, rfl⟩
  rw [hN] at hs ⊢
  have hmx := hs.max
  have hcp := hs.cap
  have HS := Lib.hid hs
  have HOB := Lib.hid hob
  have HN := Lib.hid hN
  have HA := Lib.hid ha
  clear hs hob hN
  by_cases hbig : 200 < N
  · clear ha
    go_enter Try.func6, Try.ntmps6
    go_wp2_with fail
    refine (awake8_any _).mono ?_
    rintro e w0 ⟨rfl, b0⟩
    go_wp2_with fail
    refine (cnew_ok w.heap.size 2 w0 (by decide) (by decide) b0.size).mono ?_
    rintro e w1 ⟨g, O, rfl, -, -, b1⟩
    go_wp2
    go_ret
    exact ⟨rfl, b0.trans (b1.mono b0.size)⟩
  have hs1 : Hid (pn0.set 5 after = (⟨0, [(5, after)], false⟩, 0)) := by show _ = _; simp [pn0, PN.set, fidx, show ¬ 18446744073709551616 ≤ after by omega]
  clear ha
  go_enter Try.func6, Try.ntmps6
  go_wp2_with fail
  refine (awake8_any _).mono ?_
  rintro e w0 ⟨rfl, b0⟩
  have B0 := Lib.hid b0
  clear b0
  go_wp2_with fail
  refine (cnew_ok w.heap.size 2 w0 (by decide) (by decide) (B0.out.size)).mono ?_
  rintro e w1 ⟨g1, O1, rfl, K1, l1, b1⟩
  have K1' : ClkAt w.heap.size w1 O1 g1 [pn0, pn0] := K1
  have HKc1 := Lib.hid K1'
  have L1 := Lib.hid l1
  have B1 := Lib.hid (B0.out.trans (b1.mono B0.out.size))
  clear K1 K1' l1 b1
  go_wp2_with fail
  refine (cset_eq 0 (5) after w1 HKc1.out (p' := ⟨0, [(5, after)], false⟩) (E := 0) rfl HA.out (hs1.out) rfl).mono ?_
  rintro e w2 ⟨rfl, O2, K2, s2, c2⟩
  have K2' : ClkAt w.heap.size w2 O2 g1 [⟨0, [(5, after)], false⟩, pn0] := K2
  have HKc2 := Lib.hid K2'
  have B2 := Lib.hid (B1.out.trans (c2.toBelow HKc1.out.low B1.out.size))
  clear K2 K2' s2 c2 HKc1
  go_wp2_with fail
  go_loopw [8] (fun iv wr => ∃ (k : Nat) (p : PN) (O : Nat → Prop), k ≤ N ∧ iv = .int .i64 k ∧ ClkAt w.heap.size wr O g1 [⟨0, [(5, after)], false⟩, p] ∧ Below w.heap.size w wr) (fun i _ => N - (intOf i).toNat)
  case atStart => exact ⟨0, pn0, O2, Nat.zero_le _, rfl, HKc2.out, B2.out⟩
  case round =>
    clear HKc2 B0 B1 B2 L1 hs1
    obtain ⟨k, p, O, hk, rfl, hK, hbr⟩ := hrel
    have HK := Lib.hid hK
    have HBR := Lib.hid hbr
    clear hK hbr
    by_cases hlt : k < N
    · obtain ⟨q, hq⟩ : ∃ q, os[k]? = some q := ⟨_, List.getElem?_eq_getElem (by rw [HN.out]; exact hlt)⟩
      have hqb := HOB.out q (List.mem_of_getElem? hq)
      obtain ⟨ad, rfl, c0, -, c2, c3⟩ := (HS.out.after (by decide) HBR.out).opAt hlt hq
      obtain ⟨op, nd, id, a⟩ := q
      simp only at c0 c2 c3 hqb
      have HQB := Lib.hid hqb
      clear hq hqb
      by_cases h1 : op = 1
      · subst h1
        by_cases hov : p.now + a < 18446744073709551616
        · have HOV := Lib.hid hov
          clear hov
          go_wp2_with fail
          refine (ctick_eq 1 a wr HK.out rfl rfl HOV.out rfl).mono ?_
          rintro e w3 ⟨rfl, O3, K3, s3, d3⟩
          have HB3 := Lib.hid (HBR.out.trans (d3.toBelow HK.out.low HBR.out.size))
          have HK3 := Lib.hid K3
          clear K3 s3 d3
          go_wp2
          go_roundw
          case rel => exact ⟨k + 1, _, O3, by omega, by first | rfl | go_num, HK3.out, HB3.out⟩
          case measure => simp [intOf]; omega
        · have hF := ctick_full 1 a wr HK.out rfl HQB.out (Nat.le_of_not_lt hov)
          have HF := Lib.hid hF
          clear hF hov
          go_wp2_with fail
          refine HF.out.mono ?_
          rintro e _ ⟨rfl, r, rfl⟩
          go_wp2
          go_roundw
          case rel => exact ⟨k + 1, p, O, by omega, by first | rfl | go_num, HK.out.drewN r, below_drewN HBR.out r⟩
          case measure => simp [intOf]; omega
      by_cases h2 : op = 2
      · subst h2
        obtain ⟨p', E, hset⟩ : ∃ p' E, p.set id a = (p', E) := ⟨_, _, rfl⟩
        have hC := fun W (hK : ClkAt w.heap.size W O g1 [⟨0, [(5, after)], false⟩, p]) => cset_eq 1 id a W hK rfl HQB.out hset (ns' := [⟨0, [(5, after)], false⟩, p']) rfl
        have HC := Lib.hid hC
        clear hC hset
        go_wp2
        go_region_with (first | (go_at_call 10; refine (HC.out _ (by first | exact HK.out.drewN 1 | exact HK.out.drewN _ | exact HK.out)).mono ?_; rintro e w3 ⟨rfl, O3, K3, s3, d3⟩))
        all_goals
          have HB3 : Hid (Below w.heap.size w w3) := (below_drewN HBR.out 1).trans (d3.toBelow HK.out.low (show w.heap.size ≤ (wr.drewN 1).heap.size from HBR.out.size))
          have HK3 := Lib.hid K3
          clear K3 s3 d3
          go_wp2
          go_roundw
          case rel => exact ⟨k + 1, p', O3, by omega, by first | rfl | go_num, HK3.out, HB3.out⟩
          case measure => simp [intOf]; omega
      by_cases h3 : op = 3
      · subst h3
        obtain ⟨p', E, hstop⟩ : ∃ p' E, p.stop id = (p', E) := ⟨_, _, rfl⟩
        have hC := cstop_eq 1 id wr HK.out rfl hstop (ns' := [⟨0, [(5, after)], false⟩, p']) rfl
        have HC := Lib.hid hC
        clear hC hstop
        go_wp2_with fail
        refine HC.out.mono ?_
        rintro e w3 ⟨rfl, O3, K3, s3, d3⟩
        have HB3 := Lib.hid (HBR.out.trans (d3.toBelow HK.out.low HBR.out.size))
        have HK3 := Lib.hid K3
        clear K3 s3 d3
        go_wp2
        go_roundw
        case rel => exact ⟨k + 1, p', O3, by omega, by first | rfl | go_num, HK3.out, HB3.out⟩
        case measure => simp [intOf]; omega
      by_cases h4 : op = 4
      · subst h4
        by_cases hpz : p.paused = true
        · have hC := cdue_paused 1 wr HK.out rfl hpz
          have HC := Lib.hid hC
          clear hC hpz
          go_wp2_with fail
          refine HC.out.mono ?_
          rintro e _ ⟨rfl, rfl⟩
          go_wp2
          go_roundw
          case rel => exact ⟨k + 1, p, O, by omega, by first | rfl | go_num, HK.out, HBR.out⟩
          case measure => simp [intOf]; omega
        · have hC := cdue_eq 1 wr HK.out rfl (by simpa using hpz) rfl rfl rfl
          have HC := Lib.hid hC
          clear hC hpz
          go_wp2_with fail
          refine HC.out.mono ?_
          rintro e w3 ⟨v3, O3, rfl, -, K3, s3, d3, -⟩
          have HB3 := Lib.hid (HBR.out.trans (d3.toBelow HK.out.low HBR.out.size))
          have HK3 := Lib.hid K3
          clear K3 s3 d3
          go_wp2
          go_roundw
          case rel => exact ⟨k + 1, _, O3, by omega, by first | rfl | go_num, HK3.out, HB3.out⟩
          case measure => simp [intOf]; omega
      have e1 : (op == 1) = false := beq_eq_false_iff_ne.2 h1
      have e2 : (op == 2) = false := beq_eq_false_iff_ne.2 h2
      have e3 : (op == 3) = false := beq_eq_false_iff_ne.2 h3
      have e4 : (op == 4) = false := beq_eq_false_iff_ne.2 h4
      have hC := fun b => cpause_ok 1 b wr HK.out rfl
      have HC := Lib.hid hC
      clear hC
      go_wp2_with fail
      refine (HC.out _).mono ?_
      rintro e w3 ⟨rfl, O3, K3, s3, d3⟩
      have HB3 := Lib.hid (HBR.out.trans (d3.toBelow HK.out.low HBR.out.size))
      have HK3 := Lib.hid K3
      clear K3 s3 d3
      go_wp2
      go_roundw
      case rel => exact ⟨k + 1, _, O3, by omega, by first | rfl | go_num, HK3.out, HB3.out⟩
      case measure => simp [intOf]; omega
    · obtain rfl : k = N := by omega
      have hC := cnow_ok 0 wr HK.out rfl
      have HC := Lib.hid hC
      have hd2 : Hid (tsort (lates ⟨after, [(5, after)], false⟩) = [(5, after)]) := by show _ = _; simp [lates, lateb, tsort, tins]
      have hr2 : Hid (rests ⟨after, [(5, after)], false⟩ = []) := by show _ = _; simp [rests, lateb]
      have ht2 : Hid (PN.stop ⟨after, [], false⟩ 5 = (⟨after, [], false⟩, 41)) := by show _ = _; simp [PN.stop, fidx]
      have hz0 : Hid (0 + after = after) := Nat.zero_add after
      clear hC
      by_cases hpos : 0 < after
      · have hd1 : Hid (tsort (lates ⟨0, [(5, after)], false⟩) = []) := by show _ = _; simp [lates, lateb, tsort, show ¬ after = 0 by omega]
        have hr1 : Hid (rests ⟨0, [(5, after)], false⟩ = [(5, after)]) := by show _ = _; simp [rests, lateb, show ¬ after = 0 by omega]
        go_wp2_with fail
        refine HC.out.mono ?_
        rintro e _ ⟨rfl, rfl⟩
        go_wp2_with fail
        refine (cdue_eq 0 wr HK.out rfl rfl (l := []) (hd1.out) (hr1.out) rfl).mono ?_
        rintro e w11 ⟨v11, O11, rfl, R11, K11, s11, c11, a11⟩
        clear a11
        obtain ⟨A11, q11, hv11, -⟩ := own_sl R11.own
        replace hv11 : v11 = .slice A11 0 q11 := hv11
        subst hv11
        have HR11 := Lib.hid R11
        clear R11
        have K11' : ClkAt w.heap.size w11 O11 g1 [⟨0, [(5, after)], false⟩, p] := K11
        have HKc11 := Lib.hid K11'
        have B11 := Lib.hid (HBR.out.trans (c11.toBelow HK.out.low HBR.out.size))
        clear K11 K11' s11 c11 HK
        go_wp2_with fail
        refine (ctick_eq 0 after w11 HKc11.out rfl (t := after) (hz0.out) HA.out rfl).mono ?_
        rintro e w12 ⟨rfl, O12, K12, s12, c12⟩
        have K12' : ClkAt w.heap.size w12 O12 g1 [⟨after, [(5, after)], false⟩, p] := K12
        have HKc12 := Lib.hid K12'
        have B12 := Lib.hid (B11.out.trans (c12.toBelow HKc11.out.low B11.out.size))
        clear K12 K12' s12 c12 HKc11
        go_wp2_with fail
        refine (cdue_eq 0 w12 HKc12.out rfl rfl (l := [(5, after)]) (hd2.out) (hr2.out) rfl).mono ?_
        rintro e w13 ⟨v13, O13, rfl, R13, K13, s13, c13, a13⟩
        clear a13
        obtain ⟨A13, q13, hv13, -⟩ := own_sl R13.own
        replace hv13 : v13 = .slice A13 1 q13 := hv13
        subst hv13
        have HR13 := Lib.hid R13
        clear R13
        have K13' : ClkAt w.heap.size w13 O13 g1 [⟨after, [], false⟩, p] := K13
        have HKc13 := Lib.hid K13'
        have B13 := Lib.hid (B12.out.trans (c13.toBelow HKc12.out.low B12.out.size))
        clear K13 K13' s13 c13 HKc12
        go_wp2_with fail
        refine (cstop_eq 0 (5) w13 HKc13.out (p' := ⟨after, [], false⟩) (E := 41) rfl (ht2.out) rfl).mono ?_
        rintro e w14 ⟨rfl, O14, K14, s14, c14⟩
        have Rd14 : Hid (Res w14 O14 (.slice A13 1 q13) [(5, after)]) := HR13.out.chg c14 s14
        clear HR13
        have K14' : ClkAt w.heap.size w14 O14 g1 [⟨after, [], false⟩, p] := K14
        have HKc14 := Lib.hid K14'
        have B14 := Lib.hid (B13.out.trans (c14.toBelow HKc13.out.low B13.out.size))
        clear K14 K14' s14 c14 HKc13
        have SY := Rd14.out.sl.alloc (by decide) (.cells #[.int .i64 5] 3)
        have SN := sl_one w14 (.int .i64 5) 3
        have C1 := numbers_eq [5] [5] _ true SY SN rfl
        have HC1 := Lib.hid C1
        clear SY SN C1
        go_wp2_with fail
        refine HC1.out.mono ?_
        rintro e _ ⟨rfl, qq, rfl⟩
        go_wp2
        go_ret
        exact ⟨rfl, below_drewN (B14.out.alloc B14.out.size _) qq⟩
      · obtain rfl : after = 0 := by omega
        go_wp2_with fail
        refine HC.out.mono ?_
        rintro e _ ⟨rfl, rfl⟩
        go_wp2_with fail
        refine (ctick_eq 0 0 wr HK.out rfl (t := 0) (rfl) (by decide) rfl).mono ?_
        rintro e w31 ⟨rfl, O31, K31, s31, c31⟩
        have K31' : ClkAt w.heap.size w31 O31 g1 [⟨0, [(5, 0)], false⟩, p] := K31
        have HKc31 := Lib.hid K31'
        have B31 := Lib.hid (HBR.out.trans (c31.toBelow HK.out.low HBR.out.size))
        clear K31 K31' s31 c31 HK
        go_wp2_with fail
        refine (cdue_eq 0 w31 HKc31.out rfl rfl (l := [(5, 0)]) (hd2.out) (hr2.out) rfl).mono ?_
        rintro e w32 ⟨v32, O32, rfl, R32, K32, s32, c32, a32⟩
        clear a32
        obtain ⟨A32, q32, hv32, -⟩ := own_sl R32.own
        replace hv32 : v32 = .slice A32 1 q32 := hv32
        subst hv32
        have HR32 := Lib.hid R32
        clear R32
        have K32' : ClkAt w.heap.size w32 O32 g1 [⟨0, [], false⟩, p] := K32
        have HKc32 := Lib.hid K32'
        have B32 := Lib.hid (B31.out.trans (c32.toBelow HKc31.out.low B31.out.size))
        clear K32 K32' s32 c32 HKc31
        go_wp2_with fail
        refine (cstop_eq 0 (5) w32 HKc32.out (p' := ⟨0, [], false⟩) (E := 41) rfl (ht2.out) rfl).mono ?_
        rintro e w33 ⟨rfl, O33, K33, s33, c33⟩
        have Rd33 : Hid (Res w33 O33 (.slice A32 1 q32) [(5, 0)]) := HR32.out.chg c33 s33
        clear HR32
        have K33' : ClkAt w.heap.size w33 O33 g1 [⟨0, [], false⟩, p] := K33
        have HKc33 := Lib.hid K33'
        have B33 := Lib.hid (B32.out.trans (c33.toBelow HKc32.out.low B32.out.size))
        clear K33 K33' s33 c33 HKc32
        have SY := Rd33.out.sl.alloc (by decide) (.cells #[.int .i64 5] 3)
        have SN := sl_one w33 (.int .i64 5) 3
        have C1 := numbers_eq [5] [5] _ true SY SN rfl
        have HC1 := Lib.hid C1
        clear SY SN C1
        go_wp2_with fail
        refine HC1.out.mono ?_
        rintro e _ ⟨rfl, qq, rfl⟩
        go_wp2
        go_ret
        exact ⟨rfl, below_drewN (B33.out.alloc B33.out.size _) qq⟩
end Go.Proofs.Ytcocakbopbehjaa
