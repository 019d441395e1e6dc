/- ClockOnce. -/
import Derived.Test.YtcocakbopbehjaaClkAwake
import Derived.Test.YtcocakbopbehjaaPKitC
namespace Go.Proofs.Ytcocakbopbehjaa
open Go.RowKit
set_option maxRecDepth 100000 in
set_option maxHeartbeats 12800000 in
theorem clockOnce_any (w : World) {after : Nat} (ha : after < 18446744073709551616) {vt : Value} {ticks : List Nat} (hT : U64s w vt ticks) {vp : Value} {bs : List Bool} (hB : Bools w vp bs) :
    Calls Try.prog 3 #[.int .u64 (after : Int), vt, vp] w fun e w' => e = .returned (.bool true) ∧ Below w.heap.size w w' := by
  obtain ⟨A, c, lo, hi, rfl, hs, htb⟩ := hT
  obtain ⟨Ap, cp, lop, hip, rfl, hsp⟩ := hB
  obtain ⟨N, hN⟩ : ∃ N, ticks.length = N := ⟨_, rfl⟩
  obtain ⟨R, hR⟩ : ∃ R, bs.length = R := ⟨_, rfl⟩
  rw [hN] at hs ⊢
  rw [hR] at hsp ⊢
  have hmx := hs.max
  have hcp := hs.cap
  have hmxp := hsp.max
  have hcpp := hsp.cap
  have HS := Lib.hid hs
  have HSP := Lib.hid hsp
  have HTB := Lib.hid htb
  have HN := Lib.hid hN
  have HR := Lib.hid hR
  have HA := Lib.hid ha
  clear hs hsp htb hN hR
  by_cases hbig : 20 < N
  · clear ha
    go_enter Try.func3, Try.ntmps3
    go_wp2_with fail
    refine (awake8_any _).mono ?_
    rintro e w0 ⟨rfl, b0⟩
    go_wp2_with fail
    refine (cnew_ok w.heap.size 1 w0 (by decide) (by decide) b0.size).mono ?_
    rintro e w1 ⟨g, O, rfl, -, -, b1⟩
    go_wp2
    go_ret
    exact ⟨rfl, b0.trans (b1.mono b0.size)⟩
  have hs1 : Hid (pn0.set 3 after = (⟨0, [(3, after)], false⟩, 0)) := by show _ = _; simp [pn0, PN.set, fidx, show ¬ 18446744073709551616 ≤ after by omega]
  clear ha
  go_enter Try.func3, Try.ntmps3
  go_wp2_with fail
  refine (awake8_any _).mono ?_
  rintro e w0 ⟨rfl, b0⟩
  have B0 := Lib.hid b0
  clear b0
  go_wp2_with fail
  refine (cnew_ok w.heap.size 1 w0 (by decide) (by decide) (B0.out.size)).mono ?_
  rintro e w1 ⟨g1, O1, rfl, K1, l1, b1⟩
  have K1' : ClkAt w.heap.size w1 O1 g1 [pn0] := K1
  have HKc1 := Lib.hid K1'
  have L1 := Lib.hid l1
  have B1 := Lib.hid (B0.out.trans (b1.mono B0.out.size))
  clear K1 K1' l1 b1
  go_wp2_with fail
  refine (cset_eq 0 (3) after w1 HKc1.out (p' := ⟨0, [(3, after)], false⟩) (E := 0) rfl HA.out (hs1.out) rfl).mono ?_
  rintro e w2 ⟨rfl, O2, K2, s2, c2⟩
  have K2' : ClkAt w.heap.size w2 O2 g1 [⟨0, [(3, after)], false⟩] := K2
  have HKc2 := Lib.hid K2'
  have B2 := Lib.hid (B1.out.trans (c2.toBelow HKc1.out.low B1.out.size))
  clear K2 K2' s2 c2 HKc1
  go_wp2_with fail
  go_loopw [11, 12, 13, 14, 15, 16, 17] (fun sv mv iv _ _ _ _ wr => ∃ (k sum : Nat) (ts : List Tm) (pz : Bool) (O : Nat → Prop), k ≤ N ∧ iv = .int .i64 k ∧ mv = .int .u64 (sum : Int) ∧ (sv = .int .i64 0 ∧ ts = [(3, after)] ∨ sv = .int .i64 1 ∧ ts = []) ∧ ClkAt w.heap.size wr O g1 [⟨sum, ts, pz⟩] ∧ Below w.heap.size w wr) (fun _ _ i _ _ _ _ _ => N - (intOf i).toNat)
  case atStart => exact ⟨0, 0, [(3, after)], false, O2, Nat.zero_le _, rfl, rfl, .inl ⟨rfl, rfl⟩, HKc2.out, B2.out⟩
  case round =>
    clear HKc2 B0 B1 B2 L1 hs1
    obtain ⟨k, sum, ts, pz, O, hk, rfl, rfl, hseen, hK, hbr⟩ := hrel
    have hsum : sum < 18446744073709551616 := by obtain ⟨x, hG⟩ := hK.got (i := 0) rfl; have := hG.node.ok.now; rw [hG.xp] at this; exact this
    have HK := Lib.hid hK
    have HBR := Lib.hid hbr
    clear hK hbr
    by_cases hlt : k < N
    · obtain ⟨ad, u, rfl, hu, -⟩ := (HS.out.after (by decide) HBR.out).nth hlt
      rw [List.getElem?_map] at hu
      obtain ⟨t, ht, rfl⟩ := Option.map_eq_some_iff.1 hu
      have htl : t < 18446744073709551616 := HTB.out t (List.mem_of_getElem? ht)
      have HTC : Hid (∀ W, Below w.heap.size w W → W.cell? (ad.add k) = some (.int .u64 (t : Int))) := fun W hW => by
        obtain ⟨ad', u, e, hu', hc⟩ := (HS.out.after (by decide) hW).nth hlt
        injection e with e
        subst e
        rw [List.getElem?_map, ht] at hu'
        injection hu' with hu'
        rw [hc, ← hu']
      have HTL := Lib.hid htl
      clear hu ht htl
      have y0 := HTC.out wr HBR.out
      rcases hseen with ⟨rfl, rfl⟩ | ⟨rfl, rfl⟩
      · by_cases hov : sum + t < 18446744073709551616
        · have HOV := Lib.hid hov
          obtain ⟨sm, hs2⟩ : ∃ s, sum + t = s := ⟨_, rfl⟩
          have hw : IntKind.u64.wrap ((sum : Int) + (t : Int)) = (sm : Int) := by rw [IntKind.wrap_u64]; omega
          have HS2 := Lib.hid hs2
          have hsml : sm < 18446744073709551616 := by omega
          have HSL := Lib.hid hsml
          clear hov hs2 hsml hsum
          go_wp2_with fail
          refine (ctick_eq 0 t wr HK.out rfl (t := sm) (HS2.out) HSL.out rfl).mono ?_
          rintro e w1 ⟨rfl, O1, K1, s1, c1⟩
          have K1' : ClkAt w.heap.size w1 O1 g1 [⟨sm, [(3, after)], pz⟩] := K1
          have HKc1 := Lib.hid K1'
          have B1 := Lib.hid (HBR.out.trans (c1.toBelow HK.out.low HBR.out.size))
          clear K1 K1' s1 c1 HK
          have y1 := HTC.out w1 B1.out
          by_cases hkR : k < R
          · obtain ⟨pd, ub, rfl, hub, hcb⟩ := (HSP.out.after (by decide) B1.out).nth hkR
            rw [List.getElem?_map] at hub
            obtain ⟨bb, hbb, rfl⟩ := Option.map_eq_some_iff.1 hub
            clear hub hbb
            cases bb with
            | true =>
              go_wp2_with fail
              refine (cpause_ok 0 true w1 HKc1.out rfl).mono ?_
              rintro e w2 ⟨rfl, O2, K2, s2, c2⟩
              have K2' : ClkAt w.heap.size w2 O2 g1 [⟨sm, [(3, after)], true⟩] := K2
              have HKc2 := Lib.hid K2'
              have B2 := Lib.hid (B1.out.trans (c2.toBelow HKc1.out.low B1.out.size))
              clear K2 K2' s2 c2 HKc1
              go_wp2_with fail
              refine (cdue_paused 0 w2 HKc2.out rfl rfl).mono ?_
              rintro e _ ⟨rfl, rfl⟩
              go_wp2
              all_goals
                go_roundw
                case rel => exact ⟨k + 1, sm, [(3, after)], true, O2, by omega, by first | rfl | go_num, by first | rfl | go_num, .inl ⟨rfl, rfl⟩, HKc2.out, B2.out⟩
                case measure => simp [intOf]; omega
            | false =>
              by_cases hge : after ≤ sm
              · have hd2 : Hid (tsort (lates ⟨sm, [(3, after)], false⟩) = [(3, after)]) := by show _ = _; simp [lates, lateb, tsort, tins, hge]
                have hr2 : Hid (rests ⟨sm, [(3, after)], false⟩ = []) := by show _ = _; simp [rests, lateb, hge]
                go_wp2_with fail
                refine (cpause_ok 0 false w1 HKc1.out rfl).mono ?_
                rintro e w2 ⟨rfl, O2, K2, s2, c2⟩
                have K2' : ClkAt w.heap.size w2 O2 g1 [⟨sm, [(3, after)], false⟩] := K2
                have HKc2 := Lib.hid K2'
                have B2 := Lib.hid (B1.out.trans (c2.toBelow HKc1.out.low B1.out.size))
                clear K2 K2' s2 c2 HKc1
                go_wp2_with fail
                refine (cdue_eq 0 w2 HKc2.out rfl rfl (l := [(3, after)]) (hd2.out) (hr2.out) rfl).mono ?_
                rintro e w3 ⟨v3, O3, rfl, R3, K3, s3, c3, a3⟩
                clear a3
                obtain ⟨A3, q3, hv3, -⟩ := own_sl R3.own
                replace hv3 : v3 = .slice A3 1 q3 := hv3
                subst hv3
                have HR3 := Lib.hid R3
                clear R3
                have K3' : ClkAt w.heap.size w3 O3 g1 [⟨sm, [], false⟩] := K3
                have HKc3 := Lib.hid K3'
                have B3 := Lib.hid (B2.out.trans (c3.toBelow HKc2.out.low B2.out.size))
                clear K3 K3' s3 c3 HKc2
                obtain ⟨dd, du, rfl, hdu, hdc⟩ := HR3.out.sl.nth (k := 0) (by decide)
                have hdu' : Value.int .i64 3 = du := by simpa using hdu
                subst hdu'
                rw [map_add0'] at hdc
                go_wp2
                all_goals
                  go_roundw
                  case rel => exact ⟨k + 1, sm, [], false, O3, by omega, by first | rfl | go_num, by first | rfl | go_num, .inr ⟨rfl, rfl⟩, HKc3.out, B3.out⟩
                  case measure => simp [intOf]; omega
              · have hd2 : Hid (tsort (lates ⟨sm, [(3, after)], false⟩) = []) := by show _ = _; simp [lates, lateb, tsort, hge]
                have hr2 : Hid (rests ⟨sm, [(3, after)], false⟩ = [(3, after)]) := by show _ = _; simp [rests, lateb, hge]
                go_wp2_with fail
                refine (cpause_ok 0 false w1 HKc1.out rfl).mono ?_
                rintro e w2 ⟨rfl, O2, K2, s2, c2⟩
                have K2' : ClkAt w.heap.size w2 O2 g1 [⟨sm, [(3, after)], false⟩] := K2
                have HKc2 := Lib.hid K2'
                have B2 := Lib.hid (B1.out.trans (c2.toBelow HKc1.out.low B1.out.size))
                clear K2 K2' s2 c2 HKc1
                go_wp2_with fail
                refine (cdue_eq 0 w2 HKc2.out rfl rfl (l := []) (hd2.out) (hr2.out) rfl).mono ?_
                rintro e w3 ⟨v3, O3, rfl, R3, K3, s3, c3, a3⟩
                clear a3
                obtain ⟨A3, q3, hv3, -⟩ := own_sl R3.own
                replace hv3 : v3 = .slice A3 0 q3 := hv3
                subst hv3
                have HR3 := Lib.hid R3
                clear R3
                have K3' : ClkAt w.heap.size w3 O3 g1 [⟨sm, [(3, after)], false⟩] := K3
                have HKc3 := Lib.hid K3'
                have B3 := Lib.hid (B2.out.trans (c3.toBelow HKc2.out.low B2.out.size))
                clear K3 K3' s3 c3 HKc2
                go_wp2
                all_goals
                  go_roundw
                  case rel => exact ⟨k + 1, sm, [(3, after)], false, O3, by omega, by first | rfl | go_num, by first | rfl | go_num, .inl ⟨rfl, rfl⟩, HKc3.out, B3.out⟩
                  case measure => simp [intOf]; omega
          · have hkR' : ¬ (k : Int) < (R : Int) := by omega
            by_cases hge : after ≤ sm
            · have hd2 : Hid (tsort (lates ⟨sm, [(3, after)], false⟩) = [(3, after)]) := by show _ = _; simp [lates, lateb, tsort, tins, hge]
              have hr2 : Hid (rests ⟨sm, [(3, after)], false⟩ = []) := by show _ = _; simp [rests, lateb, hge]
              go_wp2_with fail
              refine (cpause_ok 0 false w1 HKc1.out rfl).mono ?_
              rintro e w2 ⟨rfl, O2, K2, s2, c2⟩
              have K2' : ClkAt w.heap.size w2 O2 g1 [⟨sm, [(3, after)], false⟩] := K2
              have HKc2 := Lib.hid K2'
              have B2 := Lib.hid (B1.out.trans (c2.toBelow HKc1.out.low B1.out.size))
              clear K2 K2' s2 c2 HKc1
              go_wp2_with fail
              refine (cdue_eq 0 w2 HKc2.out rfl rfl (l := [(3, after)]) (hd2.out) (hr2.out) rfl).mono ?_
              rintro e w3 ⟨v3, O3, rfl, R3, K3, s3, c3, a3⟩
              clear a3
              obtain ⟨A3, q3, hv3, -⟩ := own_sl R3.own
              replace hv3 : v3 = .slice A3 1 q3 := hv3
              subst hv3
              have HR3 := Lib.hid R3
              clear R3
              have K3' : ClkAt w.heap.size w3 O3 g1 [⟨sm, [], false⟩] := K3
              have HKc3 := Lib.hid K3'
              have B3 := Lib.hid (B2.out.trans (c3.toBelow HKc2.out.low B2.out.size))
              clear K3 K3' s3 c3 HKc2
              obtain ⟨dd, du, rfl, hdu, hdc⟩ := HR3.out.sl.nth (k := 0) (by decide)
              have hdu' : Value.int .i64 3 = du := by simpa using hdu
              subst hdu'
              rw [map_add0'] at hdc
              go_wp2
              all_goals
                go_roundw
                case rel => exact ⟨k + 1, sm, [], false, O3, by omega, by first | rfl | go_num, by first | rfl | go_num, .inr ⟨rfl, rfl⟩, HKc3.out, B3.out⟩
                case measure => simp [intOf]; omega
            · have hd2 : Hid (tsort (lates ⟨sm, [(3, after)], false⟩) = []) := by show _ = _; simp [lates, lateb, tsort, hge]
              have hr2 : Hid (rests ⟨sm, [(3, after)], false⟩ = [(3, after)]) := by show _ = _; simp [rests, lateb, hge]
              go_wp2_with fail
              refine (cpause_ok 0 false w1 HKc1.out rfl).mono ?_
              rintro e w2 ⟨rfl, O2, K2, s2, c2⟩
              have K2' : ClkAt w.heap.size w2 O2 g1 [⟨sm, [(3, after)], false⟩] := K2
              have HKc2 := Lib.hid K2'
              have B2 := Lib.hid (B1.out.trans (c2.toBelow HKc1.out.low B1.out.size))
              clear K2 K2' s2 c2 HKc1
              go_wp2_with fail
              refine (cdue_eq 0 w2 HKc2.out rfl rfl (l := []) (hd2.out) (hr2.out) rfl).mono ?_
              rintro e w3 ⟨v3, O3, rfl, R3, K3, s3, c3, a3⟩
              clear a3
              obtain ⟨A3, q3, hv3, -⟩ := own_sl R3.own
              replace hv3 : v3 = .slice A3 0 q3 := hv3
              subst hv3
              have HR3 := Lib.hid R3
              clear R3
              have K3' : ClkAt w.heap.size w3 O3 g1 [⟨sm, [(3, after)], false⟩] := K3
              have HKc3 := Lib.hid K3'
              have B3 := Lib.hid (B2.out.trans (c3.toBelow HKc2.out.low B2.out.size))
              clear K3 K3' s3 c3 HKc2
              go_wp2
              all_goals
                go_roundw
                case rel => exact ⟨k + 1, sm, [(3, after)], false, O3, by omega, by first | rfl | go_num, by first | rfl | go_num, .inl ⟨rfl, rfl⟩, HKc3.out, B3.out⟩
                case measure => simp [intOf]; omega
        · have hF := ctick_full 0 t wr HK.out rfl HTL.out (by show _ ≤ sum + t; omega)
          have HF := Lib.hid hF
          clear hF hov hsum
          go_wp2_with fail
          refine HF.out.mono ?_
          rintro e _ ⟨rfl, q, rfl⟩
          have HKq : Hid (ClkAt w.heap.size (wr.drewN q) O g1 [⟨sum, [(3, after)], pz⟩]) := HK.out.drewN q
          have HBq : Hid (Below w.heap.size w (wr.drewN q)) := below_drewN HBR.out q
          generalize wr.drewN q = wq at HKq HBq ⊢
          clear HK HBR HF y0
          by_cases hkR : k < R
          · obtain ⟨pd, ub, rfl, hub, hcb⟩ := (HSP.out.after (by decide) HBq.out).nth hkR
            rw [List.getElem?_map] at hub
            obtain ⟨bb, hbb, rfl⟩ := Option.map_eq_some_iff.1 hub
            clear hub hbb
            cases bb with
            | true =>
              go_wp2_with fail
              refine (cpause_ok 0 true wq HKq.out rfl).mono ?_
              rintro e w51 ⟨rfl, O51, K51, s51, c51⟩
              have K51' : ClkAt w.heap.size w51 O51 g1 [⟨sum, [(3, after)], true⟩] := K51
              have HKc51 := Lib.hid K51'
              have B51 := Lib.hid (HBq.out.trans (c51.toBelow HKq.out.low HBq.out.size))
              clear K51 K51' s51 c51 HKq
              go_wp2_with fail
              refine (cdue_paused 0 w51 HKc51.out rfl rfl).mono ?_
              rintro e _ ⟨rfl, rfl⟩
              go_wp2
              all_goals
                go_roundw
                case rel => exact ⟨k + 1, sum, [(3, after)], true, O51, by omega, by first | rfl | go_num, by first | rfl | go_num, .inl ⟨rfl, rfl⟩, HKc51.out, B51.out⟩
                case measure => simp [intOf]; omega
            | false =>
              by_cases hge : after ≤ sum
              · have hd2 : Hid (tsort (lates ⟨sum, [(3, after)], false⟩) = [(3, after)]) := by show _ = _; simp [lates, lateb, tsort, tins, hge]
                have hr2 : Hid (rests ⟨sum, [(3, after)], false⟩ = []) := by show _ = _; simp [rests, lateb, hge]
                go_wp2_with fail
                refine (cpause_ok 0 false wq HKq.out rfl).mono ?_
                rintro e w51 ⟨rfl, O51, K51, s51, c51⟩
                have K51' : ClkAt w.heap.size w51 O51 g1 [⟨sum, [(3, after)], false⟩] := K51
                have HKc51 := Lib.hid K51'
                have B51 := Lib.hid (HBq.out.trans (c51.toBelow HKq.out.low HBq.out.size))
                clear K51 K51' s51 c51 HKq
                go_wp2_with fail
                refine (cdue_eq 0 w51 HKc51.out rfl rfl (l := [(3, after)]) (hd2.out) (hr2.out) rfl).mono ?_
                rintro e w52 ⟨v52, O52, rfl, R52, K52, s52, c52, a52⟩
                clear a52
                obtain ⟨A52, q52, hv52, -⟩ := own_sl R52.own
                replace hv52 : v52 = .slice A52 1 q52 := hv52
                subst hv52
                have HR52 := Lib.hid R52
                clear R52
                have K52' : ClkAt w.heap.size w52 O52 g1 [⟨sum, [], false⟩] := K52
                have HKc52 := Lib.hid K52'
                have B52 := Lib.hid (B51.out.trans (c52.toBelow HKc51.out.low B51.out.size))
                clear K52 K52' s52 c52 HKc51
                obtain ⟨dd, du, rfl, hdu, hdc⟩ := HR52.out.sl.nth (k := 0) (by decide)
                have hdu' : Value.int .i64 3 = du := by simpa using hdu
                subst hdu'
                rw [map_add0'] at hdc
                go_wp2
                all_goals
                  go_roundw
                  case rel => exact ⟨k + 1, sum, [], false, O52, by omega, by first | rfl | go_num, by first | rfl | go_num, .inr ⟨rfl, rfl⟩, HKc52.out, B52.out⟩
                  case measure => simp [intOf]; omega
              · have hd2 : Hid (tsort (lates ⟨sum, [(3, after)], false⟩) = []) := by show _ = _; simp [lates, lateb, tsort, hge]
                have hr2 : Hid (rests ⟨sum, [(3, after)], false⟩ = [(3, after)]) := by show _ = _; simp [rests, lateb, hge]
                go_wp2_with fail
                refine (cpause_ok 0 false wq HKq.out rfl).mono ?_
                rintro e w51 ⟨rfl, O51, K51, s51, c51⟩
                have K51' : ClkAt w.heap.size w51 O51 g1 [⟨sum, [(3, after)], false⟩] := K51
                have HKc51 := Lib.hid K51'
                have B51 := Lib.hid (HBq.out.trans (c51.toBelow HKq.out.low HBq.out.size))
                clear K51 K51' s51 c51 HKq
                go_wp2_with fail
                refine (cdue_eq 0 w51 HKc51.out rfl rfl (l := []) (hd2.out) (hr2.out) rfl).mono ?_
                rintro e w52 ⟨v52, O52, rfl, R52, K52, s52, c52, a52⟩
                clear a52
                obtain ⟨A52, q52, hv52, -⟩ := own_sl R52.own
                replace hv52 : v52 = .slice A52 0 q52 := hv52
                subst hv52
                have HR52 := Lib.hid R52
                clear R52
                have K52' : ClkAt w.heap.size w52 O52 g1 [⟨sum, [(3, after)], false⟩] := K52
                have HKc52 := Lib.hid K52'
                have B52 := Lib.hid (B51.out.trans (c52.toBelow HKc51.out.low B51.out.size))
                clear K52 K52' s52 c52 HKc51
                go_wp2
                all_goals
                  go_roundw
                  case rel => exact ⟨k + 1, sum, [(3, after)], false, O52, by omega, by first | rfl | go_num, by first | rfl | go_num, .inl ⟨rfl, rfl⟩, HKc52.out, B52.out⟩
                  case measure => simp [intOf]; omega
          · have hkR' : ¬ (k : Int) < (R : Int) := by omega
            by_cases hge : after ≤ sum
            · have hd2 : Hid (tsort (lates ⟨sum, [(3, after)], false⟩) = [(3, after)]) := by show _ = _; simp [lates, lateb, tsort, tins, hge]
              have hr2 : Hid (rests ⟨sum, [(3, after)], false⟩ = []) := by show _ = _; simp [rests, lateb, hge]
              go_wp2_with fail
              refine (cpause_ok 0 false wq HKq.out rfl).mono ?_
              rintro e w51 ⟨rfl, O51, K51, s51, c51⟩
              have K51' : ClkAt w.heap.size w51 O51 g1 [⟨sum, [(3, after)], false⟩] := K51
              have HKc51 := Lib.hid K51'
              have B51 := Lib.hid (HBq.out.trans (c51.toBelow HKq.out.low HBq.out.size))
              clear K51 K51' s51 c51 HKq
              go_wp2_with fail
              refine (cdue_eq 0 w51 HKc51.out rfl rfl (l := [(3, after)]) (hd2.out) (hr2.out) rfl).mono ?_
              rintro e w52 ⟨v52, O52, rfl, R52, K52, s52, c52, a52⟩
              clear a52
              obtain ⟨A52, q52, hv52, -⟩ := own_sl R52.own
              replace hv52 : v52 = .slice A52 1 q52 := hv52
              subst hv52
              have HR52 := Lib.hid R52
              clear R52
              have K52' : ClkAt w.heap.size w52 O52 g1 [⟨sum, [], false⟩] := K52
              have HKc52 := Lib.hid K52'
              have B52 := Lib.hid (B51.out.trans (c52.toBelow HKc51.out.low B51.out.size))
              clear K52 K52' s52 c52 HKc51
              obtain ⟨dd, du, rfl, hdu, hdc⟩ := HR52.out.sl.nth (k := 0) (by decide)
              have hdu' : Value.int .i64 3 = du := by simpa using hdu
              subst hdu'
              rw [map_add0'] at hdc
              go_wp2
              all_goals
                go_roundw
                case rel => exact ⟨k + 1, sum, [], false, O52, by omega, by first | rfl | go_num, by first | rfl | go_num, .inr ⟨rfl, rfl⟩, HKc52.out, B52.out⟩
                case measure => simp [intOf]; omega
            · have hd2 : Hid (tsort (lates ⟨sum, [(3, after)], false⟩) = []) := by show _ = _; simp [lates, lateb, tsort, hge]
              have hr2 : Hid (rests ⟨sum, [(3, after)], false⟩ = [(3, after)]) := by show _ = _; simp [rests, lateb, hge]
              go_wp2_with fail
              refine (cpause_ok 0 false wq HKq.out rfl).mono ?_
              rintro e w51 ⟨rfl, O51, K51, s51, c51⟩
              have K51' : ClkAt w.heap.size w51 O51 g1 [⟨sum, [(3, after)], false⟩] := K51
              have HKc51 := Lib.hid K51'
              have B51 := Lib.hid (HBq.out.trans (c51.toBelow HKq.out.low HBq.out.size))
              clear K51 K51' s51 c51 HKq
              go_wp2_with fail
              refine (cdue_eq 0 w51 HKc51.out rfl rfl (l := []) (hd2.out) (hr2.out) rfl).mono ?_
              rintro e w52 ⟨v52, O52, rfl, R52, K52, s52, c52, a52⟩
              clear a52
              obtain ⟨A52, q52, hv52, -⟩ := own_sl R52.own
              replace hv52 : v52 = .slice A52 0 q52 := hv52
              subst hv52
              have HR52 := Lib.hid R52
              clear R52
              have K52' : ClkAt w.heap.size w52 O52 g1 [⟨sum, [(3, after)], false⟩] := K52
              have HKc52 := Lib.hid K52'
              have B52 := Lib.hid (B51.out.trans (c52.toBelow HKc51.out.low B51.out.size))
              clear K52 K52' s52 c52 HKc51
              go_wp2
              all_goals
                go_roundw
                case rel => exact ⟨k + 1, sum, [(3, after)], false, O52, by omega, by first | rfl | go_num, by first | rfl | go_num, .inl ⟨rfl, rfl⟩, HKc52.out, B52.out⟩
                case measure => simp [intOf]; omega
      · by_cases hov : sum + t < 18446744073709551616
        · have HOV := Lib.hid hov
          obtain ⟨sm, hs2⟩ : ∃ s, sum + t = s := ⟨_, rfl⟩
          have hw : IntKind.u64.wrap ((sum : Int) + (t : Int)) = (sm : Int) := by rw [IntKind.wrap_u64]; omega
          have HS2 := Lib.hid hs2
          have hsml : sm < 18446744073709551616 := by omega
          have HSL := Lib.hid hsml
          clear hov hs2 hsml hsum
          go_wp2_with fail
          refine (ctick_eq 0 t wr HK.out rfl (t := sm) (HS2.out) HSL.out rfl).mono ?_
          rintro e w1 ⟨rfl, O1, K1, s1, c1⟩
          have K1' : ClkAt w.heap.size w1 O1 g1 [⟨sm, [], pz⟩] := K1
          have HKc1 := Lib.hid K1'
          have B1 := Lib.hid (HBR.out.trans (c1.toBelow HK.out.low HBR.out.size))
          clear K1 K1' s1 c1 HK
          have y1 := HTC.out w1 B1.out
          by_cases hkR : k < R
          · obtain ⟨pd, ub, rfl, hub, hcb⟩ := (HSP.out.after (by decide) B1.out).nth hkR
            rw [List.getElem?_map] at hub
            obtain ⟨bb, hbb, rfl⟩ := Option.map_eq_some_iff.1 hub
            clear hub hbb
            cases bb with
            | true =>
              go_wp2_with fail
              refine (cpause_ok 0 true w1 HKc1.out rfl).mono ?_
              rintro e w2 ⟨rfl, O2, K2, s2, c2⟩
              have K2' : ClkAt w.heap.size w2 O2 g1 [⟨sm, [], true⟩] := K2
              have HKc2 := Lib.hid K2'
              have B2 := Lib.hid (B1.out.trans (c2.toBelow HKc1.out.low B1.out.size))
              clear K2 K2' s2 c2 HKc1
              go_wp2_with fail
              refine (cdue_paused 0 w2 HKc2.out rfl rfl).mono ?_
              rintro e _ ⟨rfl, rfl⟩
              go_wp2
              all_goals
                go_roundw
                case rel => exact ⟨k + 1, sm, [], true, O2, by omega, by first | rfl | go_num, by first | rfl | go_num, .inr ⟨rfl, rfl⟩, HKc2.out, B2.out⟩
                case measure => simp [intOf]; omega
            | false =>
              go_wp2_with fail
              refine (cpause_ok 0 false w1 HKc1.out rfl).mono ?_
              rintro e w2 ⟨rfl, O2, K2, s2, c2⟩
              have K2' : ClkAt w.heap.size w2 O2 g1 [⟨sm, [], false⟩] := K2
              have HKc2 := Lib.hid K2'
              have B2 := Lib.hid (B1.out.trans (c2.toBelow HKc1.out.low B1.out.size))
              clear K2 K2' s2 c2 HKc1
              go_wp2_with fail
              refine (cdue_eq 0 w2 HKc2.out rfl rfl (l := []) (rfl) (rfl) rfl).mono ?_
              rintro e w3 ⟨v3, O3, rfl, R3, K3, s3, c3, a3⟩
              clear a3
              obtain ⟨A3, q3, hv3, -⟩ := own_sl R3.own
              replace hv3 : v3 = .slice A3 0 q3 := hv3
              subst hv3
              have HR3 := Lib.hid R3
              clear R3
              have K3' : ClkAt w.heap.size w3 O3 g1 [⟨sm, [], false⟩] := K3
              have HKc3 := Lib.hid K3'
              have B3 := Lib.hid (B2.out.trans (c3.toBelow HKc2.out.low B2.out.size))
              clear K3 K3' s3 c3 HKc2
              go_wp2
              all_goals
                go_roundw
                case rel => exact ⟨k + 1, sm, [], false, O3, by omega, by first | rfl | go_num, by first | rfl | go_num, .inr ⟨rfl, rfl⟩, HKc3.out, B3.out⟩
                case measure => simp [intOf]; omega
          · have hkR' : ¬ (k : Int) < (R : Int) := by omega
            go_wp2_with fail
            refine (cpause_ok 0 false w1 HKc1.out rfl).mono ?_
            rintro e w2 ⟨rfl, O2, K2, s2, c2⟩
            have K2' : ClkAt w.heap.size w2 O2 g1 [⟨sm, [], false⟩] := K2
            have HKc2 := Lib.hid K2'
            have B2 := Lib.hid (B1.out.trans (c2.toBelow HKc1.out.low B1.out.size))
            clear K2 K2' s2 c2 HKc1
            go_wp2_with fail
            refine (cdue_eq 0 w2 HKc2.out rfl rfl (l := []) (rfl) (rfl) rfl).mono ?_
            rintro e w3 ⟨v3, O3, rfl, R3, K3, s3, c3, a3⟩
            clear a3
            obtain ⟨A3, q3, hv3, -⟩ := own_sl R3.own
            replace hv3 : v3 = .slice A3 0 q3 := hv3
            subst hv3
            have HR3 := Lib.hid R3
            clear R3
            have K3' : ClkAt w.heap.size w3 O3 g1 [⟨sm, [], false⟩] := K3
            have HKc3 := Lib.hid K3'
            have B3 := Lib.hid (B2.out.trans (c3.toBelow HKc2.out.low B2.out.size))
            clear K3 K3' s3 c3 HKc2
            go_wp2
            all_goals
              go_roundw
              case rel => exact ⟨k + 1, sm, [], false, O3, by omega, by first | rfl | go_num, by first | rfl | go_num, .inr ⟨rfl, rfl⟩, HKc3.out, B3.out⟩
              case measure => simp [intOf]; omega
        · have hF := ctick_full 0 t wr HK.out rfl HTL.out (by show _ ≤ sum + t; omega)
          have HF := Lib.hid hF
          clear hF hov hsum
          go_wp2_with fail
          refine HF.out.mono ?_
          rintro e _ ⟨rfl, q, rfl⟩
          have HKq : Hid (ClkAt w.heap.size (wr.drewN q) O g1 [⟨sum, [], pz⟩]) := HK.out.drewN q
          have HBq : Hid (Below w.heap.size w (wr.drewN q)) := below_drewN HBR.out q
          generalize wr.drewN q = wq at HKq HBq ⊢
          clear HK HBR HF y0
          by_cases hkR : k < R
          · obtain ⟨pd, ub, rfl, hub, hcb⟩ := (HSP.out.after (by decide) HBq.out).nth hkR
            rw [List.getElem?_map] at hub
            obtain ⟨bb, hbb, rfl⟩ := Option.map_eq_some_iff.1 hub
            clear hub hbb
            cases bb with
            | true =>
              go_wp2_with fail
              refine (cpause_ok 0 true wq HKq.out rfl).mono ?_
              rintro e w51 ⟨rfl, O51, K51, s51, c51⟩
              have K51' : ClkAt w.heap.size w51 O51 g1 [⟨sum, [], true⟩] := K51
              have HKc51 := Lib.hid K51'
              have B51 := Lib.hid (HBq.out.trans (c51.toBelow HKq.out.low HBq.out.size))
              clear K51 K51' s51 c51 HKq
              go_wp2_with fail
              refine (cdue_paused 0 w51 HKc51.out rfl rfl).mono ?_
              rintro e _ ⟨rfl, rfl⟩
              go_wp2
              all_goals
                go_roundw
                case rel => exact ⟨k + 1, sum, [], true, O51, by omega, by first | rfl | go_num, by first | rfl | go_num, .inr ⟨rfl, rfl⟩, HKc51.out, B51.out⟩
                case measure => simp [intOf]; omega
            | false =>
              go_wp2_with fail
              refine (cpause_ok 0 false wq HKq.out rfl).mono ?_
              rintro e w51 ⟨rfl, O51, K51, s51, c51⟩
              have K51' : ClkAt w.heap.size w51 O51 g1 [⟨sum, [], false⟩] := K51
              have HKc51 := Lib.hid K51'
              have B51 := Lib.hid (HBq.out.trans (c51.toBelow HKq.out.low HBq.out.size))
              clear K51 K51' s51 c51 HKq
              go_wp2_with fail
              refine (cdue_eq 0 w51 HKc51.out rfl rfl (l := []) (rfl) (rfl) rfl).mono ?_
              rintro e w52 ⟨v52, O52, rfl, R52, K52, s52, c52, a52⟩
              clear a52
              obtain ⟨A52, q52, hv52, -⟩ := own_sl R52.own
              replace hv52 : v52 = .slice A52 0 q52 := hv52
              subst hv52
              have HR52 := Lib.hid R52
              clear R52
              have K52' : ClkAt w.heap.size w52 O52 g1 [⟨sum, [], false⟩] := K52
              have HKc52 := Lib.hid K52'
              have B52 := Lib.hid (B51.out.trans (c52.toBelow HKc51.out.low B51.out.size))
              clear K52 K52' s52 c52 HKc51
              go_wp2
              all_goals
                go_roundw
                case rel => exact ⟨k + 1, sum, [], false, O52, by omega, by first | rfl | go_num, by first | rfl | go_num, .inr ⟨rfl, rfl⟩, HKc52.out, B52.out⟩
                case measure => simp [intOf]; omega
          · have hkR' : ¬ (k : Int) < (R : Int) := by omega
            go_wp2_with fail
            refine (cpause_ok 0 false wq HKq.out rfl).mono ?_
            rintro e w51 ⟨rfl, O51, K51, s51, c51⟩
            have K51' : ClkAt w.heap.size w51 O51 g1 [⟨sum, [], false⟩] := K51
            have HKc51 := Lib.hid K51'
            have B51 := Lib.hid (HBq.out.trans (c51.toBelow HKq.out.low HBq.out.size))
            clear K51 K51' s51 c51 HKq
            go_wp2_with fail
            refine (cdue_eq 0 w51 HKc51.out rfl rfl (l := []) (rfl) (rfl) rfl).mono ?_
            rintro e w52 ⟨v52, O52, rfl, R52, K52, s52, c52, a52⟩
            clear a52
            obtain ⟨A52, q52, hv52, -⟩ := own_sl R52.own
            replace hv52 : v52 = .slice A52 0 q52 := hv52
            subst hv52
            have HR52 := Lib.hid R52
            clear R52
            have K52' : ClkAt w.heap.size w52 O52 g1 [⟨sum, [], false⟩] := K52
            have HKc52 := Lib.hid K52'
            have B52 := Lib.hid (B51.out.trans (c52.toBelow HKc51.out.low B51.out.size))
            clear K52 K52' s52 c52 HKc51
            go_wp2
            all_goals
              go_roundw
              case rel => exact ⟨k + 1, sum, [], false, O52, by omega, by first | rfl | go_num, by first | rfl | go_num, .inr ⟨rfl, rfl⟩, HKc52.out, B52.out⟩
              case measure => simp [intOf]; omega
    · obtain rfl : k = N := by omega
      have hC := cnow_ok 0 wr HK.out rfl
      have HC := Lib.hid hC
      clear hC hsum
      rcases hseen with ⟨rfl, rfl⟩ | ⟨rfl, rfl⟩
      all_goals
        go_wp2_with fail
        refine HC.out.mono ?_
        rintro e _ ⟨rfl, rfl⟩
        go_wp2
        go_ret
        exact ⟨by first | rfl | simp, HBR.out⟩
end Go.Proofs.Ytcocakbopbehjaa
