/- The examples of chapter 08. -/
import Derived.Test.YtcocakbopbehjaaClkRes

namespace Go.Proofs.Ytcocakbopbehjaa
open Go.RowKit
set_option maxRecDepth 100000 in
set_option maxHeartbeats 6400000 in
theorem awake8_any (w : World) : Calls Try.prog 8 #[] w fun e w' => e = .returned (.bool true) ∧ Below w.heap.size w w' := by
  go_enter Try.func8, Try.ntmps8
  go_wp2_with fail
  refine (cnew_ok w.heap.size 2 w (by decide) (by decide) (Nat.le_refl _)).mono ?_
  rintro e w1 ⟨g1, O1, rfl, K1, l1, b1⟩
  have K1' : ClkAt w.heap.size w1 O1 g1 [pn0, pn0] := K1
  have HKc1 := Lib.hid K1'
  have L1 := Lib.hid l1
  have B1 := Lib.hid (b1)
  clear K1 K1' l1 b1
  go_wp2_with fail
  refine (cnew_ok w.heap.size 2 w1 (by decide) (by decide) (B1.out.size)).mono ?_
  rintro e w2 ⟨g2, O2, rfl, K2, l2, b2⟩
  have Kc2 : ClkAt w.heap.size w2 O1 g1 [pn0, pn0] := HKc1.out.after b2
  have Jcd2 : Hid (∀ k, O2 k → ¬ O1 k) := fun k h1 h2 => by have h3 := l2 k h1; have h4 := HKc1.out.top k h2; omega
  have Jdc2 : Hid (∀ k, O1 k → ¬ O2 k) := fun k h1 h2 => Jcd2.out k h2 h1
  have HKc2 := Lib.hid Kc2
  clear Kc2 HKc1
  have K2' : ClkAt w.heap.size w2 O2 g2 [pn0, pn0] := K2
  have HKd2 := Lib.hid K2'
  have L2 := Lib.hid l2
  have B2 := Lib.hid (B1.out.trans (b2.mono B1.out.size))
  clear K2 K2' l2 b2
  go_wp2_with fail
  refine (cset_eq 0 (7) 5 w2 HKc2.out (p' := ⟨0, [(7, 5)], false⟩) (E := 0) rfl (by decide) (rfl) rfl).mono ?_
  rintro e w3 ⟨rfl, O3, K3, s3, c3⟩
  have Kd3 : ClkAt w.heap.size w3 O2 g2 [pn0, pn0] := HKd2.out.other c3 Jcd2.out
  have Jcd3 : Hid (∀ k, O2 k → ¬ O3 k) := HKd2.out.apart Jcd2.out s3
  have HKd3 := Lib.hid Kd3
  clear Kd3 HKd2 Jcd2
  have Jdc3 : Hid (∀ k, O3 k → ¬ O2 k) := fun k h1 h2 => Jcd3.out k h2 h1
  have K3' : ClkAt w.heap.size w3 O3 g1 [⟨0, [(7, 5)], false⟩, pn0] := K3
  have HKc3 := Lib.hid K3'
  have B3 := Lib.hid (B2.out.trans (c3.toBelow HKc2.out.low B2.out.size))
  clear K3 K3' s3 c3 HKc2
  go_wp2_with fail
  refine (ctick_eq 0 4 w3 HKc3.out rfl (t := 4) (rfl) (by decide) rfl).mono ?_
  rintro e w4 ⟨rfl, O4, K4, s4, c4⟩
  have Kd4 : ClkAt w.heap.size w4 O2 g2 [pn0, pn0] := HKd3.out.other c4 Jcd3.out
  have Jcd4 : Hid (∀ k, O2 k → ¬ O4 k) := HKd3.out.apart Jcd3.out s4
  have HKd4 := Lib.hid Kd4
  clear Kd4 HKd3 Jcd3
  have Jdc4 : Hid (∀ k, O4 k → ¬ O2 k) := fun k h1 h2 => Jcd4.out k h2 h1
  have K4' : ClkAt w.heap.size w4 O4 g1 [⟨4, [(7, 5)], false⟩, pn0] := K4
  have HKc4 := Lib.hid K4'
  have B4 := Lib.hid (B3.out.trans (c4.toBelow HKc3.out.low B3.out.size))
  clear K4 K4' s4 c4 HKc3
  go_wp2_with fail
  refine (cdue_eq 0 w4 HKc4.out rfl rfl (l := []) (rfl) (rfl) rfl).mono ?_
  rintro e w5 ⟨v5, O5, rfl, R5, K5, s5, c5, a5⟩
  clear a5
  obtain ⟨A5, q5, hv5, -⟩ := own_sl R5.own
  replace hv5 : v5 = .slice A5 0 q5 := hv5
  subst hv5
  have HR5 := Lib.hid R5
  clear R5
  have Kd5 : ClkAt w.heap.size w5 O2 g2 [pn0, pn0] := HKd4.out.other c5 Jcd4.out
  have Jcd5 : Hid (∀ k, O2 k → ¬ O5 k) := HKd4.out.apart Jcd4.out s5
  have HKd5 := Lib.hid Kd5
  clear Kd5 HKd4 Jcd4
  have Jdc5 : Hid (∀ k, O5 k → ¬ O2 k) := fun k h1 h2 => Jcd5.out k h2 h1
  have K5' : ClkAt w.heap.size w5 O5 g1 [⟨4, [(7, 5)], false⟩, pn0] := K5
  have HKc5 := Lib.hid K5'
  have B5 := Lib.hid (B4.out.trans (c5.toBelow HKc4.out.low B4.out.size))
  clear K5 K5' s5 c5 HKc4
  go_wp2_with fail
  refine (ctick_eq 0 1 w5 HKc5.out rfl (t := 5) (rfl) (by decide) rfl).mono ?_
  rintro e w6 ⟨rfl, O6, K6, s6, c6⟩
  have Kd6 : ClkAt w.heap.size w6 O2 g2 [pn0, pn0] := HKd5.out.other c6 Jcd5.out
  have Jcd6 : Hid (∀ k, O2 k → ¬ O6 k) := HKd5.out.apart Jcd5.out s6
  have HKd6 := Lib.hid Kd6
  clear Kd6 HKd5 Jcd5
  have Jdc6 : Hid (∀ k, O6 k → ¬ O2 k) := fun k h1 h2 => Jcd6.out k h2 h1
  have K6' : ClkAt w.heap.size w6 O6 g1 [⟨5, [(7, 5)], false⟩, pn0] := K6
  have HKc6 := Lib.hid K6'
  have B6 := Lib.hid (B5.out.trans (c6.toBelow HKc5.out.low B5.out.size))
  clear K6 K6' s6 c6 HKc5
  go_wp2_with fail
  refine (cdue_eq 0 w6 HKc6.out rfl rfl (l := [(7, 5)]) (rfl) (rfl) rfl).mono ?_
  rintro e w7 ⟨v7, O7, rfl, R7, K7, s7, c7, a7⟩
  have HYD : Hid (∀ b, v7.ownBlock = some b → ¬ O2 b) := fun b hb hO => by have h1 := a7 b hb; have h2 := HKd6.out.top b hO; omega
  clear a7
  obtain ⟨A7, q7, hv7, -⟩ := own_sl R7.own
  replace hv7 : v7 = .slice A7 1 q7 := hv7
  subst hv7
  have HR7 := Lib.hid R7
  clear R7
  have Kd7 : ClkAt w.heap.size w7 O2 g2 [pn0, pn0] := HKd6.out.other c7 Jcd6.out
  have Jcd7 : Hid (∀ k, O2 k → ¬ O7 k) := HKd6.out.apart Jcd6.out s7
  have HKd7 := Lib.hid Kd7
  clear Kd7 HKd6 Jcd6
  have Jdc7 : Hid (∀ k, O7 k → ¬ O2 k) := fun k h1 h2 => Jcd7.out k h2 h1
  have K7' : ClkAt w.heap.size w7 O7 g1 [⟨5, [], false⟩, pn0] := K7
  have HKc7 := Lib.hid K7'
  have B7 := Lib.hid (B6.out.trans (c7.toBelow HKc6.out.low B6.out.size))
  clear K7 K7' s7 c7 HKc6
  go_wp2_with fail
  refine (cdue_eq 0 w7 HKc7.out rfl rfl (l := []) (rfl) (rfl) rfl).mono ?_
  rintro e w8 ⟨v8, O8, rfl, R8, K8, s8, c8, a8⟩
  clear a8
  obtain ⟨A8, q8, hv8, -⟩ := own_sl R8.own
  replace hv8 : v8 = .slice A8 0 q8 := hv8
  subst hv8
  have HR8 := Lib.hid R8
  clear R8
  have Kd8 : ClkAt w.heap.size w8 O2 g2 [pn0, pn0] := HKd7.out.other c8 Jcd7.out
  have Jcd8 : Hid (∀ k, O2 k → ¬ O8 k) := HKd7.out.apart Jcd7.out s8
  have HKd8 := Lib.hid Kd8
  clear Kd8 HKd7 Jcd7
  have Jdc8 : Hid (∀ k, O8 k → ¬ O2 k) := fun k h1 h2 => Jcd8.out k h2 h1
  have Ry8 : Hid (Res w8 O8 (.slice A7 1 q7) [(7, 5)]) := HR7.out.chg c8 s8
  clear HR7
  have K8' : ClkAt w.heap.size w8 O8 g1 [⟨5, [], false⟩, pn0] := K8
  have HKc8 := Lib.hid K8'
  have B8 := Lib.hid (B7.out.trans (c8.toBelow HKc7.out.low B7.out.size))
  clear K8 K8' s8 c8 HKc7
  have RyD : Hid (Res w8 O2 (.slice A7 1 q7) [(7, 5)]) := ⟨Ry8.out.own, HYD.out⟩
  clear Ry8 HYD
  go_wp2_with fail
  refine (cset_eq 0 (2) 5 w8 HKd8.out (p' := ⟨0, [(2, 5)], false⟩) (E := 0) rfl (by decide) (rfl) rfl).mono ?_
  rintro e w9 ⟨rfl, O9, K9, s9, c9⟩
  have Ry9 : Hid (Res w9 O9 (.slice A7 1 q7) [(7, 5)]) := RyD.out.chg c9 s9
  clear RyD
  have K9' : ClkAt w.heap.size w9 O9 g2 [⟨0, [(2, 5)], false⟩, pn0] := K9
  have HKd9 := Lib.hid K9'
  have B9 := Lib.hid (B8.out.trans (c9.toBelow HKd8.out.low B8.out.size))
  clear K9 K9' s9 c9 HKd8
  go_wp2_with fail
  refine (cset_eq 0 (1) 5 w9 HKd9.out (p' := ⟨0, [(2, 5), (1, 5)], false⟩) (E := 0) rfl (by decide) (rfl) rfl).mono ?_
  rintro e w10 ⟨rfl, O10, K10, s10, c10⟩
  have Ry10 : Hid (Res w10 O10 (.slice A7 1 q7) [(7, 5)]) := Ry9.out.chg c10 s10
  clear Ry9
  have K10' : ClkAt w.heap.size w10 O10 g2 [⟨0, [(2, 5), (1, 5)], false⟩, pn0] := K10
  have HKd10 := Lib.hid K10'
  have B10 := Lib.hid (B9.out.trans (c10.toBelow HKd9.out.low B9.out.size))
  clear K10 K10' s10 c10 HKd9
  go_wp2_with fail
  refine (cset_eq 0 (3) 4 w10 HKd10.out (p' := ⟨0, [(2, 5), (1, 5), (3, 4)], false⟩) (E := 0) rfl (by decide) (rfl) rfl).mono ?_
  rintro e w11 ⟨rfl, O11, K11, s11, c11⟩
  have Ry11 : Hid (Res w11 O11 (.slice A7 1 q7) [(7, 5)]) := Ry10.out.chg c11 s11
  clear Ry10
  have K11' : ClkAt w.heap.size w11 O11 g2 [⟨0, [(2, 5), (1, 5), (3, 4)], false⟩, pn0] := K11
  have HKd11 := Lib.hid K11'
  have B11 := Lib.hid (B10.out.trans (c11.toBelow HKd10.out.low B10.out.size))
  clear K11 K11' s11 c11 HKd10
  go_wp2_with fail
  refine (ctick_eq 0 9 w11 HKd11.out rfl (t := 9) (rfl) (by decide) rfl).mono ?_
  rintro e w12 ⟨rfl, O12, K12, s12, c12⟩
  have Ry12 : Hid (Res w12 O12 (.slice A7 1 q7) [(7, 5)]) := Ry11.out.chg c12 s12
  clear Ry11
  have K12' : ClkAt w.heap.size w12 O12 g2 [⟨9, [(2, 5), (1, 5), (3, 4)], false⟩, pn0] := K12
  have HKd12 := Lib.hid K12'
  have B12 := Lib.hid (B11.out.trans (c12.toBelow HKd11.out.low B11.out.size))
  clear K12 K12' s12 c12 HKd11
  go_wp2_with fail
  refine (cdue_eq 0 w12 HKd12.out rfl rfl (l := [(3, 4), (1, 5), (2, 5)]) (rfl) (rfl) rfl).mono ?_
  rintro e w13 ⟨v13, O13, rfl, R13, K13, s13, c13, a13⟩
  clear a13
  obtain ⟨A13, q13, hv13, -⟩ := own_sl R13.own
  replace hv13 : v13 = .slice A13 3 q13 := hv13
  subst hv13
  have HR13 := Lib.hid R13
  clear R13
  have Ry13 : Hid (Res w13 O13 (.slice A7 1 q7) [(7, 5)]) := Ry12.out.chg c13 s13
  clear Ry12
  have K13' : ClkAt w.heap.size w13 O13 g2 [⟨9, [], false⟩, pn0] := K13
  have HKd13 := Lib.hid K13'
  have B13 := Lib.hid (B12.out.trans (c13.toBelow HKd12.out.low B12.out.size))
  clear K13 K13' s13 c13 HKd12
  go_wp2_with fail
  refine (ctick_eq 1 18 w13 HKd13.out rfl (t := 18) (rfl) (by decide) rfl).mono ?_
  rintro e w14 ⟨rfl, O14, K14, s14, c14⟩
  have Ry14 : Hid (Res w14 O14 (.slice A7 1 q7) [(7, 5)]) := Ry13.out.chg c14 s14
  clear Ry13
  have Rw14 : Hid (Res w14 O14 (.slice A13 3 q13) [(3, 4), (1, 5), (2, 5)]) := HR13.out.chg c14 s14
  clear HR13
  have K14' : ClkAt w.heap.size w14 O14 g2 [⟨9, [], false⟩, ⟨18, [], false⟩] := K14
  have HKd14 := Lib.hid K14'
  have B14 := Lib.hid (B13.out.trans (c14.toBelow HKd13.out.low B13.out.size))
  clear K14 K14' s14 c14 HKd13
  go_wp2_with fail
  refine (cdrift_eq 9 w14 HKd14.out (by decide) (by decide) rfl).mono ?_
  rintro e _ ⟨rfl, q, rfl⟩
  have SY := (Ry14.out.sl.drewN q).alloc (by decide) (.cells #[.int .i64 7] 3)
  have SN := sl_one (w14.drewN q) (.int .i64 7) 3
  have C1 := numbers_eq [7] [7] _ true SY SN rfl
  have HC1 := Lib.hid C1
  clear SY SN C1
  go_wp2_with fail
  refine HC1.out.mono ?_
  rintro e _ ⟨rfl, q1, rfl⟩
  have SX := ((Rw14.out.sl.drewN q).alloc (by decide) (.cells #[.int .i64 7] 3)).drewN q1
  have BX : Below w.heap.size w (((w14.drewN q).alloc (.cells #[.int .i64 7] 3)).drewN q1) := below_drewN ((below_drewN B14.out q).alloc B14.out.size _) q1
  generalize ((w14.drewN q).alloc (.cells #[.int .i64 7] 3)).drewN q1 = wx at SX BX ⊢
  have SM := sl_new wx 1 3 3 #[.int .i64 3, .int .i64 1, .int .i64 2] 3 rfl (Nat.le_refl _) (by decide)
  have C2 := numbers_eq [3, 1, 2] [3, 1, 2] _ true (SX.alloc (by decide) (.cells #[.int .i64 3, .int .i64 1, .int .i64 2] 3)) SM rfl
  have HC2 := Lib.hid C2
  clear SX SM C2
  go_wp2_with fail
  refine HC2.out.mono ?_
  rintro e _ ⟨rfl, q2, rfl⟩
  go_wp2
  go_ret
  exact ⟨rfl, below_drewN (BX.alloc BX.size _) q2⟩
end Go.Proofs.Ytcocakbopbehjaa
