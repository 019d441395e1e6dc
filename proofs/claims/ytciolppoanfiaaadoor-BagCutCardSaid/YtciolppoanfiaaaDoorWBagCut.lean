/- BagCut. -/
import Derived.Test.YtciolppoanfiaaaDoorWAwake7
namespace Go.Proofs.YtciolppoanfiaaaDoor
open Go.RowKit
set_option maxRecDepth 100000 in
set_option maxHeartbeats 16000000 in
theorem bagCut_true (w : World) (hT : Tab w) (hH0 : 0 < w.heap.size) (x y p q : Int) (hx : 0 ≤ x ∧ x ≤ 15) (hy : 0 ≤ y ∧ y ≤ 15) (hp : 0 ≤ p ∧ p ≤ 15) (hq : 0 ≤ q ∧ q ≤ 15) (hs : decide (pk p q = pk x y) = true) : Calls Tryd.prog 9 #[.int .i64 x, .int .i64 y, .int .i64 p, .int .i64 q] w fun e w' => e = .returned (.bool true) ∧ Below w.heap.size w w' := by
  have uxy := un_pk (pm_pk hx hy) (pm_fits x y)
  have uyx := un_pk (pm_pk hy hx) (pm_fits y x)
  have upq := un_pk (pm_pk hp hq) (pm_fits p q)
  obtain ⟨lxy, hlxy⟩ : ∃ l, (pm x y).pkL = l := ⟨_, rfl⟩
  obtain ⟨lyx, hlyx⟩ : ∃ l, (pm y x).pkL = l := ⟨_, rfl⟩
  obtain ⟨lpq, hlpq⟩ : ∃ l, (pm p q).pkL = l := ⟨_, rfl⟩
  rw [hlxy] at uxy
  rw [hlyx] at uyx
  rw [hlpq] at upq
  have hlxybE : Hid (dE [pk x y] lxy = 50) := dE_of uxy.1 uxy.2.1 (by rw [if_pos (by exact List.mem_singleton.2 rfl)])
  have hlyxbE : Hid (dE [pk x y] lyx = 50) := dE_of uyx.1 uyx.2.1 (by rw [if_pos (by exact List.mem_singleton.2 (pk_comm y x))])
  have hlpqbE : Hid (dE [pk x y] lpq = 50) := dE_of upq.1 upq.2.1 (by show (if pk p q ∈ [pk x y] then 50 else 0) = _; rw [if_pos (List.mem_singleton.2 (of_decide_eq_true hs))])
  have hlxybP : Hid ((if 50 = 0 then unM lxy else PMsg.zero) = PMsg.zero) := rfl
  have hlyxbP : Hid ((if 50 = 0 then unM lyx else PMsg.zero) = PMsg.zero) := rfl
  have hlpqbP : Hid ((if 50 = 0 then unM lpq else PMsg.zero) = PMsg.zero) := rfl
  have gE : Hid (dE [] lxy = 0) := dE_of uxy.1 uxy.2.1 rfl
  have gP : Hid ((if 0 = 0 then unM lxy else PMsg.zero) = pm x y) := uxy.2.1
  have HLXY := Lib.hid hlxy
  have HLYX := Lib.hid hlyx
  have HLPQ := Lib.hid hlpq
  have UXY := Lib.hid uxy.2.2
  have UYX := Lib.hid uyx.2.2
  have UPQ := Lib.hid upq.2.2
  have HS : Hid ((true : Bool) = ((x == p && y == q) || (x == q && y == p))) := by
    show _ = _
    rw [← hs, Bool.eq_iff_iff]
    simp only [pk, decide_eq_true_eq, Prod.mk.injEq, Bool.or_eq_true, Bool.and_eq_true, beq_iff_eq]
    omega
  have HKE : Hid (cutK [pk x y] (pk y x) false = []) := by show _ = _; rw [pk_comm y x]; simp [cutK]
  have HX := Lib.hid hx
  have HY := Lib.hid hy
  have HP := Lib.hid hp
  have HQ := Lib.hid hq
  have t0 : decide (x < 0) = false := decide_eq_false (by omega)
  have t1 : decide (15 < x) = false := decide_eq_false (by omega)
  have t2 : decide (y < 0) = false := decide_eq_false (by omega)
  have t3 : decide (15 < y) = false := decide_eq_false (by omega)
  have t4 : decide (p < 0) = false := decide_eq_false (by omega)
  have t5 : decide (15 < p) = false := decide_eq_false (by omega)
  have t6 : decide (q < 0) = false := decide_eq_false (by omega)
  have t7 : decide (15 < q) = false := decide_eq_false (by omega)
  have rx : -9223372036854775808 ≤ x ∧ x ≤ 9223372036854775807 := by omega
  have ry : -9223372036854775808 ≤ y ∧ y ≤ 9223372036854775807 := by omega
  have RX := Lib.hid rx
  have RY := Lib.hid ry
  clear hlxy hlyx hlpq uxy uyx upq hs hx hy hp hq rx ry
  go_enter Tryd.func9, Tryd.ntmps9
  have D0 := Lib.hid (Below.refl w.heap.size w)
  go_wp2_with fail
  refine (awake7_any _ hT hH0).mono ?_
  rintro e w1 ⟨rfl, b1⟩
  have D1' := D0.out.trans (b1.mono D0.out.size)
  have D1 := Lib.hid D1'
  clear D0 D1'
  clear b1
  go_wp2_with fail
  refine (bnew_any w.heap.size _ D1.out.size).mono ?_
  rintro e w2 ⟨gb, Ob, rfl, N2, L2, b2⟩
  have D2' := D1.out.trans (b2.mono D1.out.size)
  have D2 := Lib.hid D2'
  clear D1 D2'
  have B2b := Lib.hid N2
  clear N2 L2 b2
  go_wp2_with fail
  refine (bcut_any x y RX.out RY.out _ B2b.out).mono ?_
  rintro e w3 ⟨rfl, N3, c3⟩
  have D3' := D2.out.trans (c3.toBelow B2b.out.low D2.out.size)
  have D3 := Lib.hid D3'
  clear D2 D3'
  have B3b' : BagAt w.heap.size w3 Ob gb [] [pk x y] 0 := N3
  have B3b := Lib.hid B3b'
  clear B3b' N3
  clear B2b
  clear c3
  clear t0 t1 t2 t3 t4 t5 t6 t7
  go_wp2_with fail
  refine (msg_any x y _).mono ?_
  rintro e w4 ⟨rfl, b4⟩
  have D4' := D3.out.trans (b4.mono D3.out.size)
  have D4 := Lib.hid D4'
  have B4b' := B3b.out.after b4
  have B4b := Lib.hid B4b'
  clear D3 B3b B4b' D4'
  clear b4
  go_wp2_with fail
  refine (bsend_ok (mm x y) _ (isMsg_mm _ _ _) B4b.out (hT.below D4.out hH0) hH0 D4.out.size (pm_pk HX.out HY.out) rfl (by simp)).mono ?_
  rintro e w5 ⟨O5, rfl, N5, c5, s5⟩
  rw [mm_plain, HLXY.out] at N5
  have D5' := D4.out.trans (c5.toBelow B4b.out.low D4.out.size)
  have D5 := Lib.hid D5'
  clear D4 D5'
  have B5b' : BagAt w.heap.size w5 O5 gb [lxy] [pk x y] 0 := N5
  have B5b := Lib.hid B5b'
  clear B5b' N5
  clear B4b
  clear c5 s5
  go_wp2_with fail
  refine (msg_any y x _).mono ?_
  rintro e w6 ⟨rfl, b6⟩
  have D6' := D5.out.trans (b6.mono D5.out.size)
  have D6 := Lib.hid D6'
  have B6b' := B5b.out.after b6
  have B6b := Lib.hid B6b'
  clear D5 B5b B6b' D6'
  clear b6
  go_wp2_with fail
  refine (bsend_ok (mm y x) _ (isMsg_mm _ _ _) B6b.out (hT.below D6.out hH0) hH0 D6.out.size (pm_pk HY.out HX.out) rfl (by simp)).mono ?_
  rintro e w7 ⟨O7, rfl, N7, c7, s7⟩
  rw [mm_plain, HLYX.out] at N7
  have D7' := D6.out.trans (c7.toBelow B6b.out.low D6.out.size)
  have D7 := Lib.hid D7'
  clear D6 D7'
  have B7b' : BagAt w.heap.size w7 O7 gb [lxy, lyx] [pk x y] 0 := N7
  have B7b := Lib.hid B7b'
  clear B7b' N7
  clear B6b
  clear c7 s7
  go_wp2_with fail
  refine (msg_any p q _).mono ?_
  rintro e w8 ⟨rfl, b8⟩
  have D8' := D7.out.trans (b8.mono D7.out.size)
  have D8 := Lib.hid D8'
  have B8b' := B7b.out.after b8
  have B8b := Lib.hid B8b'
  clear D7 B7b B8b' D8'
  clear b8
  go_wp2_with fail
  refine (bsend_ok (mm p q) _ (isMsg_mm _ _ _) B8b.out (hT.below D8.out hH0) hH0 D8.out.size (pm_pk HP.out HQ.out) rfl (by simp)).mono ?_
  rintro e w9 ⟨O9, rfl, N9, c9, s9⟩
  rw [mm_plain, HLPQ.out] at N9
  have D9' := D8.out.trans (c9.toBelow B8b.out.low D8.out.size)
  have D9 := Lib.hid D9'
  clear D8 D9'
  have B9b' : BagAt w.heap.size w9 O9 gb [lxy, lyx, lpq] [pk x y] 0 := N9
  have B9b := Lib.hid B9b'
  clear B9b' N9
  clear B8b
  clear c9 s9
  go_wp2_with fail
  refine (bdeliver_ok 0 lxy _ B9b.out rfl (Nat.le_trans UXY.out (by decide)) (by simp) (hT.below D9.out hH0) hH0 D9.out.size (by simp) (E := 50) hlxybE.out (P := PMsg.zero) hlxybP.out (n := 1) rfl).mono ?_
  rintro e w10 ⟨m10, rfl, hp10, hm10, N10, c10⟩
  have D10' := D9.out.trans (c10.toBelow B9b.out.low D9.out.size)
  have D10 := Lib.hid D10'
  clear D9 D10'
  have B10b' : BagAt w.heap.size w10 O9 gb [lyx, lpq] [pk x y] 1 := N10
  have B10b := Lib.hid B10b'
  clear B10b' N10
  clear B9b
  clear c10
  clear hm10 hp10
  obtain ⟨k10, f10, t10, te10, ix10, pr10, co10, ok10, dA10, dc10, d10, eA10, ec10, es10⟩ := m10
  simp only [Msg.v, mcells]
  generalize d10.length = dn10
  generalize es10.length = en10
  have D11' := D10.out.alloc D10.out.size (.cells #[.int .i64 k10, .int .i64 f10, .int .i64 t10, .int .u64 (te10 : Int), .int .u64 (ix10 : Int), .int .u64 (pr10 : Int), .int .u64 (co10 : Int), .bool ok10, .slice dA10 dn10 dc10, .slice eA10 en10 ec10] 41)
  have D11 := Lib.hid D11'
  have B11b' := B10b.out.alloc (.cells #[.int .i64 k10, .int .i64 f10, .int .i64 t10, .int .u64 (te10 : Int), .int .u64 (ix10 : Int), .int .u64 (pr10 : Int), .int .u64 (co10 : Int), .bool ok10, .slice dA10 dn10 dc10, .slice eA10 en10 ec10] 41)
  have B11b := Lib.hid B11b'
  clear D10 B10b B11b' D11'
  go_wp2_with fail
  refine (bdeliver_ok 0 lyx _ B11b.out rfl (Nat.le_trans UYX.out (by decide)) (by simp) (hT.below D11.out hH0) hH0 D11.out.size (by simp) (E := 50) hlyxbE.out (P := PMsg.zero) hlyxbP.out (n := 2) rfl).mono ?_
  rintro e w12 ⟨m12, rfl, hp12, hm12, N12, c12⟩
  have D12' := D11.out.trans (c12.toBelow B11b.out.low D11.out.size)
  have D12 := Lib.hid D12'
  clear D11 D12'
  have B12b' : BagAt w.heap.size w12 O9 gb [lpq] [pk x y] 2 := N12
  have B12b := Lib.hid B12b'
  clear B12b' N12
  clear B11b
  clear c12
  clear hm12 hp12
  obtain ⟨k12, f12, t12, te12, ix12, pr12, co12, ok12, dA12, dc12, d12, eA12, ec12, es12⟩ := m12
  simp only [Msg.v, mcells]
  generalize d12.length = dn12
  generalize es12.length = en12
  have D13' := D12.out.alloc D12.out.size (.cells #[.int .i64 k12, .int .i64 f12, .int .i64 t12, .int .u64 (te12 : Int), .int .u64 (ix12 : Int), .int .u64 (pr12 : Int), .int .u64 (co12 : Int), .bool ok12, .slice dA12 dn12 dc12, .slice eA12 en12 ec12] 41)
  have D13 := Lib.hid D13'
  have B13b' := B12b.out.alloc (.cells #[.int .i64 k12, .int .i64 f12, .int .i64 t12, .int .u64 (te12 : Int), .int .u64 (ix12 : Int), .int .u64 (pr12 : Int), .int .u64 (co12 : Int), .bool ok12, .slice dA12 dn12 dc12, .slice eA12 en12 ec12] 41)
  have B13b := Lib.hid B13b'
  clear D12 B12b B13b' D13'
  go_wp2_with fail
  refine (bdeliver_ok 0 lpq _ B13b.out rfl (Nat.le_trans UPQ.out (by decide)) (by simp) (hT.below D13.out hH0) hH0 D13.out.size (by simp) (E := 50) hlpqbE.out (P := PMsg.zero) hlpqbP.out (n := 3) rfl).mono ?_
  rintro e w14 ⟨m14, rfl, hp14, hm14, N14, c14⟩
  have D14' := D13.out.trans (c14.toBelow B13b.out.low D13.out.size)
  have D14 := Lib.hid D14'
  clear D13 D14'
  have B14b' : BagAt w.heap.size w14 O9 gb [] [pk x y] 3 := N14
  have B14b := Lib.hid B14b'
  clear B14b' N14
  clear B13b
  clear c14
  clear hm14 hp14
  obtain ⟨k14, f14, t14, te14, ix14, pr14, co14, ok14, dA14, dc14, d14, eA14, ec14, es14⟩ := m14
  simp only [Msg.v, mcells]
  generalize d14.length = dn14
  generalize es14.length = en14
  have D15' := D14.out.alloc D14.out.size (.cells #[.int .i64 k14, .int .i64 f14, .int .i64 t14, .int .u64 (te14 : Int), .int .u64 (ix14 : Int), .int .u64 (pr14 : Int), .int .u64 (co14 : Int), .bool ok14, .slice dA14 dn14 dc14, .slice eA14 en14 ec14] 41)
  have D15 := Lib.hid D15'
  have B15b' := B14b.out.alloc (.cells #[.int .i64 k14, .int .i64 f14, .int .i64 t14, .int .u64 (te14 : Int), .int .u64 (ix14 : Int), .int .u64 (pr14 : Int), .int .u64 (co14 : Int), .bool ok14, .slice dA14 dn14 dc14, .slice eA14 en14 ec14] 41)
  have B15b := Lib.hid B15b'
  clear D14 B14b B15b' D15'
  obtain ⟨b1, hb1⟩ : ∃ b, (x == p) = b := ⟨_, rfl⟩
  obtain ⟨b2, hb2⟩ : ∃ b, (y == q) = b := ⟨_, rfl⟩
  obtain ⟨b3, hb3⟩ : ∃ b, (x == q) = b := ⟨_, rfl⟩
  obtain ⟨b4, hb4⟩ : ∃ b, (y == p) = b := ⟨_, rfl⟩
  have hs := HS.out
  rw [hb1, hb2, hb3, hb4] at hs
  clear HS
  cases b1 <;> cases b2 <;> cases b3 <;> cases b4
  all_goals first | (exact absurd hs (by decide)) | skip
  all_goals clear hs
  all_goals
    go_wp2_with fail
    refine (bjoin_any y x RY.out RX.out _ B15b.out).mono ?_
    rintro e w16 ⟨rfl, N16, c16⟩
    have D16' := D15.out.trans (c16.toBelow B15b.out.low D15.out.size)
    have D16 := Lib.hid D16'
    clear D15 D16'
    rw [HKE.out] at N16
    have B16b' : BagAt w.heap.size w16 O9 gb [] [] 3 := N16
    have B16b := Lib.hid B16b'
    clear B16b' N16
    clear B15b
    clear c16
    clear hb1 hb2 hb3 hb4
    go_wp2_with fail
    refine (msg_any x y _).mono ?_
    rintro e w17 ⟨rfl, b17⟩
    have D17' := D16.out.trans (b17.mono D16.out.size)
    have D17 := Lib.hid D17'
    have B17b' := B16b.out.after b17
    have B17b := Lib.hid B17b'
    clear D16 B16b B17b' D17'
    clear b17
    go_wp2_with fail
    refine (bsend_ok (mm x y) _ (isMsg_mm _ _ _) B17b.out (hT.below D17.out hH0) hH0 D17.out.size (pm_pk HX.out HY.out) rfl (by simp)).mono ?_
    rintro e w18 ⟨O18, rfl, N18, c18, s18⟩
    rw [mm_plain, HLXY.out] at N18
    have D18' := D17.out.trans (c18.toBelow B17b.out.low D17.out.size)
    have D18 := Lib.hid D18'
    clear D17 D18'
    have B18b' : BagAt w.heap.size w18 O18 gb [lxy] [] 3 := N18
    have B18b := Lib.hid B18b'
    clear B18b' N18
    clear B17b
    clear c18 s18
    go_wp2_with fail
    refine (bdeliver_ok 0 lxy _ B18b.out rfl (Nat.le_trans UXY.out (by decide)) (by simp) (hT.below D18.out hH0) hH0 D18.out.size (by simp) (E := 0) gE.out (P := pm x y) gP.out (n := 3) rfl).mono ?_
    rintro e w19 ⟨m19, rfl, hp19, hm19, N19, c19⟩
    have D19' := D18.out.trans (c19.toBelow B18b.out.low D18.out.size)
    have D19 := Lib.hid D19'
    clear D18 D19'
    have B19b' : BagAt w.heap.size w19 O18 gb [] [] 3 := N19
    have B19b := Lib.hid B19b'
    clear B19b' N19
    clear B18b
    clear c19
    have hf19 : m19.f = x := congrArg PMsg.f hp19
    have ht19 : m19.t = y := congrArg PMsg.t hp19
    clear hm19 hp19
    obtain ⟨k19, f19, t19, te19, ix19, pr19, co19, ok19, dA19, dc19, d19, eA19, ec19, es19⟩ := m19
    simp only [Msg.v, mcells]
    generalize d19.length = dn19
    generalize es19.length = en19
    have Qn20b := Lib.hid (Blk.new w19 41 #[.int .i64 k19, .int .i64 f19, .int .i64 t19, .int .u64 (te19 : Int), .int .u64 (ix19 : Int), .int .u64 (pr19 : Int), .int .u64 (co19 : Int), .bool ok19, .slice dA19 dn19 dc19, .slice eA19 en19 ec19])
    obtain ⟨Q, hQ⟩ : ∃ q, w19.heap.size = q := ⟨_, rfl⟩
    rw [hQ] at Qn20b
    have hQh := Lib.hid hQ
    have Qo20b' : ¬ O18 Q := fun hk => by have := B19b.out.top _ hk; omega
    have Qo20b := Lib.hid Qo20b'
    clear Qo20b'
    have D20' := D19.out.alloc D19.out.size (.cells #[.int .i64 k19, .int .i64 f19, .int .i64 t19, .int .u64 (te19 : Int), .int .u64 (ix19 : Int), .int .u64 (pr19 : Int), .int .u64 (co19 : Int), .bool ok19, .slice dA19 dn19 dc19, .slice eA19 en19 ec19] 41)
    have D20 := Lib.hid D20'
    have B20b' := B19b.out.alloc (.cells #[.int .i64 k19, .int .i64 f19, .int .i64 t19, .int .u64 (te19 : Int), .int .u64 (ix19 : Int), .int .u64 (pr19 : Int), .int .u64 (co19 : Int), .bool ok19, .slice dA19 dn19 dc19, .slice eA19 en19 ec19] 41)
    have B20b := Lib.hid B20b'
    clear D19 B19b B20b' D20'
    simp only at hf19 ht19
    subst hf19 ht19
    go_wp2_with fail
    refine (blost_any _ B20b.out).mono ?_
    rintro e _ ⟨rfl, rfl⟩
    have qb := Qn20b.out
    obtain ⟨x0, x1, x2, x3, x4, x5, x6, x7, x8, x9⟩ := qb.c10
    clear qb
    have hxx : (f19 == f19) = true := by simp
    have hyy : (t19 == t19) = true := by simp
    go_wp2
    go_ret
    exact ⟨rfl, D20.out⟩
set_option maxRecDepth 100000 in
set_option maxHeartbeats 16000000 in
theorem bagCut_false (w : World) (hT : Tab w) (hH0 : 0 < w.heap.size) (x y p q : Int) (hx : 0 ≤ x ∧ x ≤ 15) (hy : 0 ≤ y ∧ y ≤ 15) (hp : 0 ≤ p ∧ p ≤ 15) (hq : 0 ≤ q ∧ q ≤ 15) (hs : decide (pk p q = pk x y) = false) : Calls Tryd.prog 9 #[.int .i64 x, .int .i64 y, .int .i64 p, .int .i64 q] w fun e w' => e = .returned (.bool true) ∧ Below w.heap.size w w' := by
  have uxy := un_pk (pm_pk hx hy) (pm_fits x y)
  have uyx := un_pk (pm_pk hy hx) (pm_fits y x)
  have upq := un_pk (pm_pk hp hq) (pm_fits p q)
  obtain ⟨lxy, hlxy⟩ : ∃ l, (pm x y).pkL = l := ⟨_, rfl⟩
  obtain ⟨lyx, hlyx⟩ : ∃ l, (pm y x).pkL = l := ⟨_, rfl⟩
  obtain ⟨lpq, hlpq⟩ : ∃ l, (pm p q).pkL = l := ⟨_, rfl⟩
  rw [hlxy] at uxy
  rw [hlyx] at uyx
  rw [hlpq] at upq
  have hlxybE : Hid (dE [pk x y] lxy = 50) := dE_of uxy.1 uxy.2.1 (by rw [if_pos (by exact List.mem_singleton.2 rfl)])
  have hlyxbE : Hid (dE [pk x y] lyx = 50) := dE_of uyx.1 uyx.2.1 (by rw [if_pos (by exact List.mem_singleton.2 (pk_comm y x))])
  have hlpqbE : Hid (dE [pk x y] lpq = 0) := dE_of upq.1 upq.2.1 (by show (if pk p q ∈ [pk x y] then 50 else 0) = _; rw [if_neg (fun hm => of_decide_eq_false hs (List.mem_singleton.1 hm))])
  have hlxybP : Hid ((if 50 = 0 then unM lxy else PMsg.zero) = PMsg.zero) := rfl
  have hlyxbP : Hid ((if 50 = 0 then unM lyx else PMsg.zero) = PMsg.zero) := rfl
  have hlpqbP : Hid ((if 0 = 0 then unM lpq else PMsg.zero) = pm p q) := upq.2.1
  have gE : Hid (dE [] lxy = 0) := dE_of uxy.1 uxy.2.1 rfl
  have gP : Hid ((if 0 = 0 then unM lxy else PMsg.zero) = pm x y) := uxy.2.1
  have HLXY := Lib.hid hlxy
  have HLYX := Lib.hid hlyx
  have HLPQ := Lib.hid hlpq
  have UXY := Lib.hid uxy.2.2
  have UYX := Lib.hid uyx.2.2
  have UPQ := Lib.hid upq.2.2
  have HS : Hid ((false : Bool) = ((x == p && y == q) || (x == q && y == p))) := by
    show _ = _
    rw [← hs, Bool.eq_iff_iff]
    simp only [pk, decide_eq_true_eq, Prod.mk.injEq, Bool.or_eq_true, Bool.and_eq_true, beq_iff_eq]
    omega
  have HKE : Hid (cutK [pk x y] (pk y x) false = []) := by show _ = _; rw [pk_comm y x]; simp [cutK]
  have HX := Lib.hid hx
  have HY := Lib.hid hy
  have HP := Lib.hid hp
  have HQ := Lib.hid hq
  have t0 : decide (x < 0) = false := decide_eq_false (by omega)
  have t1 : decide (15 < x) = false := decide_eq_false (by omega)
  have t2 : decide (y < 0) = false := decide_eq_false (by omega)
  have t3 : decide (15 < y) = false := decide_eq_false (by omega)
  have t4 : decide (p < 0) = false := decide_eq_false (by omega)
  have t5 : decide (15 < p) = false := decide_eq_false (by omega)
  have t6 : decide (q < 0) = false := decide_eq_false (by omega)
  have t7 : decide (15 < q) = false := decide_eq_false (by omega)
  have rx : -9223372036854775808 ≤ x ∧ x ≤ 9223372036854775807 := by omega
  have ry : -9223372036854775808 ≤ y ∧ y ≤ 9223372036854775807 := by omega
  have RX := Lib.hid rx
  have RY := Lib.hid ry
  clear hlxy hlyx hlpq uxy uyx upq hs hx hy hp hq rx ry
  go_enter Tryd.func9, Tryd.ntmps9
  have D0 := Lib.hid (Below.refl w.heap.size w)
  go_wp2_with fail
  refine (awake7_any _ hT hH0).mono ?_
  rintro e w1 ⟨rfl, b1⟩
  have D1' := D0.out.trans (b1.mono D0.out.size)
  have D1 := Lib.hid D1'
  clear D0 D1'
  clear b1
  go_wp2_with fail
  refine (bnew_any w.heap.size _ D1.out.size).mono ?_
  rintro e w2 ⟨gb, Ob, rfl, N2, L2, b2⟩
  have D2' := D1.out.trans (b2.mono D1.out.size)
  have D2 := Lib.hid D2'
  clear D1 D2'
  have B2b := Lib.hid N2
  clear N2 L2 b2
  go_wp2_with fail
  refine (bcut_any x y RX.out RY.out _ B2b.out).mono ?_
  rintro e w3 ⟨rfl, N3, c3⟩
  have D3' := D2.out.trans (c3.toBelow B2b.out.low D2.out.size)
  have D3 := Lib.hid D3'
  clear D2 D3'
  have B3b' : BagAt w.heap.size w3 Ob gb [] [pk x y] 0 := N3
  have B3b := Lib.hid B3b'
  clear B3b' N3
  clear B2b
  clear c3
  clear t0 t1 t2 t3 t4 t5 t6 t7
  go_wp2_with fail
  refine (msg_any x y _).mono ?_
  rintro e w4 ⟨rfl, b4⟩
  have D4' := D3.out.trans (b4.mono D3.out.size)
  have D4 := Lib.hid D4'
  have B4b' := B3b.out.after b4
  have B4b := Lib.hid B4b'
  clear D3 B3b B4b' D4'
  clear b4
  go_wp2_with fail
  refine (bsend_ok (mm x y) _ (isMsg_mm _ _ _) B4b.out (hT.below D4.out hH0) hH0 D4.out.size (pm_pk HX.out HY.out) rfl (by simp)).mono ?_
  rintro e w5 ⟨O5, rfl, N5, c5, s5⟩
  rw [mm_plain, HLXY.out] at N5
  have D5' := D4.out.trans (c5.toBelow B4b.out.low D4.out.size)
  have D5 := Lib.hid D5'
  clear D4 D5'
  have B5b' : BagAt w.heap.size w5 O5 gb [lxy] [pk x y] 0 := N5
  have B5b := Lib.hid B5b'
  clear B5b' N5
  clear B4b
  clear c5 s5
  go_wp2_with fail
  refine (msg_any y x _).mono ?_
  rintro e w6 ⟨rfl, b6⟩
  have D6' := D5.out.trans (b6.mono D5.out.size)
  have D6 := Lib.hid D6'
  have B6b' := B5b.out.after b6
  have B6b := Lib.hid B6b'
  clear D5 B5b B6b' D6'
  clear b6
  go_wp2_with fail
  refine (bsend_ok (mm y x) _ (isMsg_mm _ _ _) B6b.out (hT.below D6.out hH0) hH0 D6.out.size (pm_pk HY.out HX.out) rfl (by simp)).mono ?_
  rintro e w7 ⟨O7, rfl, N7, c7, s7⟩
  rw [mm_plain, HLYX.out] at N7
  have D7' := D6.out.trans (c7.toBelow B6b.out.low D6.out.size)
  have D7 := Lib.hid D7'
  clear D6 D7'
  have B7b' : BagAt w.heap.size w7 O7 gb [lxy, lyx] [pk x y] 0 := N7
  have B7b := Lib.hid B7b'
  clear B7b' N7
  clear B6b
  clear c7 s7
  go_wp2_with fail
  refine (msg_any p q _).mono ?_
  rintro e w8 ⟨rfl, b8⟩
  have D8' := D7.out.trans (b8.mono D7.out.size)
  have D8 := Lib.hid D8'
  have B8b' := B7b.out.after b8
  have B8b := Lib.hid B8b'
  clear D7 B7b B8b' D8'
  clear b8
  go_wp2_with fail
  refine (bsend_ok (mm p q) _ (isMsg_mm _ _ _) B8b.out (hT.below D8.out hH0) hH0 D8.out.size (pm_pk HP.out HQ.out) rfl (by simp)).mono ?_
  rintro e w9 ⟨O9, rfl, N9, c9, s9⟩
  rw [mm_plain, HLPQ.out] at N9
  have D9' := D8.out.trans (c9.toBelow B8b.out.low D8.out.size)
  have D9 := Lib.hid D9'
  clear D8 D9'
  have B9b' : BagAt w.heap.size w9 O9 gb [lxy, lyx, lpq] [pk x y] 0 := N9
  have B9b := Lib.hid B9b'
  clear B9b' N9
  clear B8b
  clear c9 s9
  go_wp2_with fail
  refine (bdeliver_ok 0 lxy _ B9b.out rfl (Nat.le_trans UXY.out (by decide)) (by simp) (hT.below D9.out hH0) hH0 D9.out.size (by simp) (E := 50) hlxybE.out (P := PMsg.zero) hlxybP.out (n := 1) rfl).mono ?_
  rintro e w10 ⟨m10, rfl, hp10, hm10, N10, c10⟩
  have D10' := D9.out.trans (c10.toBelow B9b.out.low D9.out.size)
  have D10 := Lib.hid D10'
  clear D9 D10'
  have B10b' : BagAt w.heap.size w10 O9 gb [lyx, lpq] [pk x y] 1 := N10
  have B10b := Lib.hid B10b'
  clear B10b' N10
  clear B9b
  clear c10
  clear hm10 hp10
  obtain ⟨k10, f10, t10, te10, ix10, pr10, co10, ok10, dA10, dc10, d10, eA10, ec10, es10⟩ := m10
  simp only [Msg.v, mcells]
  generalize d10.length = dn10
  generalize es10.length = en10
  have D11' := D10.out.alloc D10.out.size (.cells #[.int .i64 k10, .int .i64 f10, .int .i64 t10, .int .u64 (te10 : Int), .int .u64 (ix10 : Int), .int .u64 (pr10 : Int), .int .u64 (co10 : Int), .bool ok10, .slice dA10 dn10 dc10, .slice eA10 en10 ec10] 41)
  have D11 := Lib.hid D11'
  have B11b' := B10b.out.alloc (.cells #[.int .i64 k10, .int .i64 f10, .int .i64 t10, .int .u64 (te10 : Int), .int .u64 (ix10 : Int), .int .u64 (pr10 : Int), .int .u64 (co10 : Int), .bool ok10, .slice dA10 dn10 dc10, .slice eA10 en10 ec10] 41)
  have B11b := Lib.hid B11b'
  clear D10 B10b B11b' D11'
  go_wp2_with fail
  refine (bdeliver_ok 0 lyx _ B11b.out rfl (Nat.le_trans UYX.out (by decide)) (by simp) (hT.below D11.out hH0) hH0 D11.out.size (by simp) (E := 50) hlyxbE.out (P := PMsg.zero) hlyxbP.out (n := 2) rfl).mono ?_
  rintro e w12 ⟨m12, rfl, hp12, hm12, N12, c12⟩
  have D12' := D11.out.trans (c12.toBelow B11b.out.low D11.out.size)
  have D12 := Lib.hid D12'
  clear D11 D12'
  have B12b' : BagAt w.heap.size w12 O9 gb [lpq] [pk x y] 2 := N12
  have B12b := Lib.hid B12b'
  clear B12b' N12
  clear B11b
  clear c12
  clear hm12 hp12
  obtain ⟨k12, f12, t12, te12, ix12, pr12, co12, ok12, dA12, dc12, d12, eA12, ec12, es12⟩ := m12
  simp only [Msg.v, mcells]
  generalize d12.length = dn12
  generalize es12.length = en12
  have D13' := D12.out.alloc D12.out.size (.cells #[.int .i64 k12, .int .i64 f12, .int .i64 t12, .int .u64 (te12 : Int), .int .u64 (ix12 : Int), .int .u64 (pr12 : Int), .int .u64 (co12 : Int), .bool ok12, .slice dA12 dn12 dc12, .slice eA12 en12 ec12] 41)
  have D13 := Lib.hid D13'
  have B13b' := B12b.out.alloc (.cells #[.int .i64 k12, .int .i64 f12, .int .i64 t12, .int .u64 (te12 : Int), .int .u64 (ix12 : Int), .int .u64 (pr12 : Int), .int .u64 (co12 : Int), .bool ok12, .slice dA12 dn12 dc12, .slice eA12 en12 ec12] 41)
  have B13b := Lib.hid B13b'
  clear D12 B12b B13b' D13'
  go_wp2_with fail
  refine (bdeliver_ok 0 lpq _ B13b.out rfl (Nat.le_trans UPQ.out (by decide)) (by simp) (hT.below D13.out hH0) hH0 D13.out.size (by simp) (E := 0) hlpqbE.out (P := pm p q) hlpqbP.out (n := 2) rfl).mono ?_
  rintro e w14 ⟨m14, rfl, hp14, hm14, N14, c14⟩
  have D14' := D13.out.trans (c14.toBelow B13b.out.low D13.out.size)
  have D14 := Lib.hid D14'
  clear D13 D14'
  have B14b' : BagAt w.heap.size w14 O9 gb [] [pk x y] 2 := N14
  have B14b := Lib.hid B14b'
  clear B14b' N14
  clear B13b
  clear c14
  clear hm14 hp14
  obtain ⟨k14, f14, t14, te14, ix14, pr14, co14, ok14, dA14, dc14, d14, eA14, ec14, es14⟩ := m14
  simp only [Msg.v, mcells]
  generalize d14.length = dn14
  generalize es14.length = en14
  have D15' := D14.out.alloc D14.out.size (.cells #[.int .i64 k14, .int .i64 f14, .int .i64 t14, .int .u64 (te14 : Int), .int .u64 (ix14 : Int), .int .u64 (pr14 : Int), .int .u64 (co14 : Int), .bool ok14, .slice dA14 dn14 dc14, .slice eA14 en14 ec14] 41)
  have D15 := Lib.hid D15'
  have B15b' := B14b.out.alloc (.cells #[.int .i64 k14, .int .i64 f14, .int .i64 t14, .int .u64 (te14 : Int), .int .u64 (ix14 : Int), .int .u64 (pr14 : Int), .int .u64 (co14 : Int), .bool ok14, .slice dA14 dn14 dc14, .slice eA14 en14 ec14] 41)
  have B15b := Lib.hid B15b'
  clear D14 B14b B15b' D15'
  obtain ⟨b1, hb1⟩ : ∃ b, (x == p) = b := ⟨_, rfl⟩
  obtain ⟨b2, hb2⟩ : ∃ b, (y == q) = b := ⟨_, rfl⟩
  obtain ⟨b3, hb3⟩ : ∃ b, (x == q) = b := ⟨_, rfl⟩
  obtain ⟨b4, hb4⟩ : ∃ b, (y == p) = b := ⟨_, rfl⟩
  have hs := HS.out
  rw [hb1, hb2, hb3, hb4] at hs
  clear HS
  cases b1 <;> cases b2 <;> cases b3 <;> cases b4
  all_goals first | (exact absurd hs (by decide)) | skip
  all_goals clear hs
  all_goals
    go_wp2_with fail
    refine (bjoin_any y x RY.out RX.out _ B15b.out).mono ?_
    rintro e w16 ⟨rfl, N16, c16⟩
    have D16' := D15.out.trans (c16.toBelow B15b.out.low D15.out.size)
    have D16 := Lib.hid D16'
    clear D15 D16'
    rw [HKE.out] at N16
    have B16b' : BagAt w.heap.size w16 O9 gb [] [] 2 := N16
    have B16b := Lib.hid B16b'
    clear B16b' N16
    clear B15b
    clear c16
    clear hb1 hb2 hb3 hb4
    go_wp2_with fail
    refine (msg_any x y _).mono ?_
    rintro e w17 ⟨rfl, b17⟩
    have D17' := D16.out.trans (b17.mono D16.out.size)
    have D17 := Lib.hid D17'
    have B17b' := B16b.out.after b17
    have B17b := Lib.hid B17b'
    clear D16 B16b B17b' D17'
    clear b17
    go_wp2_with fail
    refine (bsend_ok (mm x y) _ (isMsg_mm _ _ _) B17b.out (hT.below D17.out hH0) hH0 D17.out.size (pm_pk HX.out HY.out) rfl (by simp)).mono ?_
    rintro e w18 ⟨O18, rfl, N18, c18, s18⟩
    rw [mm_plain, HLXY.out] at N18
    have D18' := D17.out.trans (c18.toBelow B17b.out.low D17.out.size)
    have D18 := Lib.hid D18'
    clear D17 D18'
    have B18b' : BagAt w.heap.size w18 O18 gb [lxy] [] 2 := N18
    have B18b := Lib.hid B18b'
    clear B18b' N18
    clear B17b
    clear c18 s18
    go_wp2_with fail
    refine (bdeliver_ok 0 lxy _ B18b.out rfl (Nat.le_trans UXY.out (by decide)) (by simp) (hT.below D18.out hH0) hH0 D18.out.size (by simp) (E := 0) gE.out (P := pm x y) gP.out (n := 2) rfl).mono ?_
    rintro e w19 ⟨m19, rfl, hp19, hm19, N19, c19⟩
    have D19' := D18.out.trans (c19.toBelow B18b.out.low D18.out.size)
    have D19 := Lib.hid D19'
    clear D18 D19'
    have B19b' : BagAt w.heap.size w19 O18 gb [] [] 2 := N19
    have B19b := Lib.hid B19b'
    clear B19b' N19
    clear B18b
    clear c19
    have hf19 : m19.f = x := congrArg PMsg.f hp19
    have ht19 : m19.t = y := congrArg PMsg.t hp19
    clear hm19 hp19
    obtain ⟨k19, f19, t19, te19, ix19, pr19, co19, ok19, dA19, dc19, d19, eA19, ec19, es19⟩ := m19
    simp only [Msg.v, mcells]
    generalize d19.length = dn19
    generalize es19.length = en19
    have Qn20b := Lib.hid (Blk.new w19 41 #[.int .i64 k19, .int .i64 f19, .int .i64 t19, .int .u64 (te19 : Int), .int .u64 (ix19 : Int), .int .u64 (pr19 : Int), .int .u64 (co19 : Int), .bool ok19, .slice dA19 dn19 dc19, .slice eA19 en19 ec19])
    obtain ⟨Q, hQ⟩ : ∃ q, w19.heap.size = q := ⟨_, rfl⟩
    rw [hQ] at Qn20b
    have hQh := Lib.hid hQ
    have Qo20b' : ¬ O18 Q := fun hk => by have := B19b.out.top _ hk; omega
    have Qo20b := Lib.hid Qo20b'
    clear Qo20b'
    have D20' := D19.out.alloc D19.out.size (.cells #[.int .i64 k19, .int .i64 f19, .int .i64 t19, .int .u64 (te19 : Int), .int .u64 (ix19 : Int), .int .u64 (pr19 : Int), .int .u64 (co19 : Int), .bool ok19, .slice dA19 dn19 dc19, .slice eA19 en19 ec19] 41)
    have D20 := Lib.hid D20'
    have B20b' := B19b.out.alloc (.cells #[.int .i64 k19, .int .i64 f19, .int .i64 t19, .int .u64 (te19 : Int), .int .u64 (ix19 : Int), .int .u64 (pr19 : Int), .int .u64 (co19 : Int), .bool ok19, .slice dA19 dn19 dc19, .slice eA19 en19 ec19] 41)
    have B20b := Lib.hid B20b'
    clear D19 B19b B20b' D20'
    simp only at hf19 ht19
    subst hf19 ht19
    go_wp2_with fail
    refine (blost_any _ B20b.out).mono ?_
    rintro e _ ⟨rfl, rfl⟩
    have qb := Qn20b.out
    obtain ⟨x0, x1, x2, x3, x4, x5, x6, x7, x8, x9⟩ := qb.c10
    clear qb
    have hxx : (f19 == f19) = true := by simp
    have hyy : (t19 == t19) = true := by simp
    go_wp2
    go_ret
    exact ⟨rfl, D20.out⟩
set_option maxRecDepth 100000 in
set_option maxHeartbeats 4000000 in
theorem bagCut_any (w : World) {x y p q : Int} (rx : -9223372036854775808 ≤ x ∧ x ≤ 9223372036854775807) (ry : -9223372036854775808 ≤ y ∧ y ≤ 9223372036854775807) (rp : -9223372036854775808 ≤ p ∧ p ≤ 9223372036854775807) (rq : -9223372036854775808 ≤ q ∧ q ≤ 9223372036854775807) (hT : Tab w) (hH0 : 0 < w.heap.size) : Calls Tryd.prog 9 #[.int .i64 x, .int .i64 y, .int .i64 p, .int .i64 q] w fun e w' => e = .returned (.bool true) ∧ Below w.heap.size w w' := by
  by_cases c0 : x < 0
  · have k0 : decide (x < 0) = true := decide_eq_true c0
    go_enter Tryd.func9, Tryd.ntmps9
    go_wp2_with fail
    refine (awake7_any _ hT hH0).mono ?_
    rintro e w1 ⟨rfl, b1⟩
    go_wp2_with fail
    refine (bnew_any w.heap.size _ b1.size).mono ?_
    rintro e w2 ⟨g, O, rfl, -, -, b2⟩
    go_wp2
    go_ret
    exact ⟨rfl, b1.trans (b2.mono b1.size)⟩
  by_cases c1 : 15 < x
  · have k1 : decide (15 < x) = true := decide_eq_true c1
    have k0 : decide (x < 0) = false := decide_eq_false c0
    go_enter Tryd.func9, Tryd.ntmps9
    go_wp2_with fail
    refine (awake7_any _ hT hH0).mono ?_
    rintro e w1 ⟨rfl, b1⟩
    go_wp2_with fail
    refine (bnew_any w.heap.size _ b1.size).mono ?_
    rintro e w2 ⟨g, O, rfl, -, -, b2⟩
    go_wp2
    go_ret
    exact ⟨rfl, b1.trans (b2.mono b1.size)⟩
  by_cases c2 : y < 0
  · have k2 : decide (y < 0) = true := decide_eq_true c2
    have k0 : decide (x < 0) = false := decide_eq_false c0
    have k1 : decide (15 < x) = false := decide_eq_false c1
    go_enter Tryd.func9, Tryd.ntmps9
    go_wp2_with fail
    refine (awake7_any _ hT hH0).mono ?_
    rintro e w1 ⟨rfl, b1⟩
    go_wp2_with fail
    refine (bnew_any w.heap.size _ b1.size).mono ?_
    rintro e w2 ⟨g, O, rfl, -, -, b2⟩
    go_wp2
    go_ret
    exact ⟨rfl, b1.trans (b2.mono b1.size)⟩
  by_cases c3 : 15 < y
  · have k3 : decide (15 < y) = true := decide_eq_true c3
    have k0 : decide (x < 0) = false := decide_eq_false c0
    have k1 : decide (15 < x) = false := decide_eq_false c1
    have k2 : decide (y < 0) = false := decide_eq_false c2
    go_enter Tryd.func9, Tryd.ntmps9
    go_wp2_with fail
    refine (awake7_any _ hT hH0).mono ?_
    rintro e w1 ⟨rfl, b1⟩
    go_wp2_with fail
    refine (bnew_any w.heap.size _ b1.size).mono ?_
    rintro e w2 ⟨g, O, rfl, -, -, b2⟩
    go_wp2
    go_ret
    exact ⟨rfl, b1.trans (b2.mono b1.size)⟩
  by_cases c4 : p < 0
  · have k4 : decide (p < 0) = true := decide_eq_true c4
    have k0 : decide (x < 0) = false := decide_eq_false c0
    have k1 : decide (15 < x) = false := decide_eq_false c1
    have k2 : decide (y < 0) = false := decide_eq_false c2
    have k3 : decide (15 < y) = false := decide_eq_false c3
    go_enter Tryd.func9, Tryd.ntmps9
    go_wp2_with fail
    refine (awake7_any _ hT hH0).mono ?_
    rintro e w1 ⟨rfl, b1⟩
    go_wp2_with fail
    refine (bnew_any w.heap.size _ b1.size).mono ?_
    rintro e w2 ⟨g, O, rfl, -, -, b2⟩
    go_wp2
    go_ret
    exact ⟨rfl, b1.trans (b2.mono b1.size)⟩
  by_cases c5 : 15 < p
  · have k5 : decide (15 < p) = true := decide_eq_true c5
    have k0 : decide (x < 0) = false := decide_eq_false c0
    have k1 : decide (15 < x) = false := decide_eq_false c1
    have k2 : decide (y < 0) = false := decide_eq_false c2
    have k3 : decide (15 < y) = false := decide_eq_false c3
    have k4 : decide (p < 0) = false := decide_eq_false c4
    go_enter Tryd.func9, Tryd.ntmps9
    go_wp2_with fail
    refine (awake7_any _ hT hH0).mono ?_
    rintro e w1 ⟨rfl, b1⟩
    go_wp2_with fail
    refine (bnew_any w.heap.size _ b1.size).mono ?_
    rintro e w2 ⟨g, O, rfl, -, -, b2⟩
    go_wp2
    go_ret
    exact ⟨rfl, b1.trans (b2.mono b1.size)⟩
  by_cases c6 : q < 0
  · have k6 : decide (q < 0) = true := decide_eq_true c6
    have k0 : decide (x < 0) = false := decide_eq_false c0
    have k1 : decide (15 < x) = false := decide_eq_false c1
    have k2 : decide (y < 0) = false := decide_eq_false c2
    have k3 : decide (15 < y) = false := decide_eq_false c3
    have k4 : decide (p < 0) = false := decide_eq_false c4
    have k5 : decide (15 < p) = false := decide_eq_false c5
    go_enter Tryd.func9, Tryd.ntmps9
    go_wp2_with fail
    refine (awake7_any _ hT hH0).mono ?_
    rintro e w1 ⟨rfl, b1⟩
    go_wp2_with fail
    refine (bnew_any w.heap.size _ b1.size).mono ?_
    rintro e w2 ⟨g, O, rfl, -, -, b2⟩
    go_wp2
    go_ret
    exact ⟨rfl, b1.trans (b2.mono b1.size)⟩
  by_cases c7 : 15 < q
  · have k7 : decide (15 < q) = true := decide_eq_true c7
    have k0 : decide (x < 0) = false := decide_eq_false c0
    have k1 : decide (15 < x) = false := decide_eq_false c1
    have k2 : decide (y < 0) = false := decide_eq_false c2
    have k3 : decide (15 < y) = false := decide_eq_false c3
    have k4 : decide (p < 0) = false := decide_eq_false c4
    have k5 : decide (15 < p) = false := decide_eq_false c5
    have k6 : decide (q < 0) = false := decide_eq_false c6
    go_enter Tryd.func9, Tryd.ntmps9
    go_wp2_with fail
    refine (awake7_any _ hT hH0).mono ?_
    rintro e w1 ⟨rfl, b1⟩
    go_wp2_with fail
    refine (bnew_any w.heap.size _ b1.size).mono ?_
    rintro e w2 ⟨g, O, rfl, -, -, b2⟩
    go_wp2
    go_ret
    exact ⟨rfl, b1.trans (b2.mono b1.size)⟩
  cases hs : decide (pk p q = pk x y) with
  | true => exact bagCut_true w hT hH0 x y p q (by omega) (by omega) (by omega) (by omega) hs
  | false => exact bagCut_false w hT hH0 x y p q (by omega) (by omega) (by omega) (by omega) hs
end Go.Proofs.YtciolppoanfiaaaDoor
