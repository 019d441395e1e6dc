/- ClockPlays. -/
import Derived.Test.YtcocakbopbehjaaClkTwin
import Derived.Test.YtcocakbopbehjaaClkAwake
import Derived.Test.YtcocakbopbehjaaClkOp
namespace Go.Proofs.Ytcocakbopbehjaa
open Go.RowKit
set_option maxRecDepth 100000 in
set_option maxHeartbeats 25600000 in
theorem clockPlays_any (w : World) {nz : Int} (hnz : -9223372036854775808 ≤ nz ∧ nz ≤ 9223372036854775807) {vo : Value} {os : List COp} (hO : Ops w vo os) :
    Calls Try.prog 5 #[.int .i64 nz, vo] w fun e w' => e = .returned (.bool true) ∧ Below w.heap.size w w' := by
  obtain ⟨A, c, lo, hi, rfl, hs, hob⟩ := hO
  obtain ⟨M, hM⟩ : ∃ M, os.length = M := ⟨_, rfl⟩
  rw [hM] at hs ⊢
  have hmx := hs.max
  have hcp := hs.cap
  have HS := Lib.hid hs
  have HOB := Lib.hid hob
  have HM := Lib.hid hM
  clear hs hob hM
  by_cases hn : ¬ (1 ≤ nz ∧ nz ≤ 16)
  · have hC1 := fun W => cnew_bad nz W hn
    have hC2 := fun W => rnew_bad nz W hn
    have HC1 := Lib.hid hC1
    have HC2 := Lib.hid hC2
    clear hC1 hC2 hn
    go_enter Try.func5, Try.ntmps5
    go_wp2_with fail
    refine (awake8_any _).mono ?_
    rintro e w0 ⟨rfl, b0⟩
    go_wp2_with fail
    refine (HC1.out _).mono ?_
    rintro e _ ⟨rfl, rfl⟩
    go_wp2_with fail
    refine (HC2.out _).mono ?_
    rintro e _ ⟨rfl, rfl⟩
    go_wp2
    go_ret
    exact ⟨by first | rfl | simp, b0⟩
  obtain ⟨n, rfl⟩ : ∃ n : Nat, nz = n := ⟨nz.toNat, by omega⟩
  have h1 : 1 ≤ n := by omega
  have h16 : n ≤ 16 := by omega
  have hC1 := fun W (h : w.heap.size ≤ W.heap.size) => cnew_ok w.heap.size n W h1 h16 h
  have hC2 := fun W => rnew_ok n W h1 h16
  have HC1 := Lib.hid hC1
  have HC2 := Lib.hid hC2
  clear hC1 hC2 hn hnz
  by_cases hbig : 200 < M
  · go_enter Try.func5, Try.ntmps5
    go_wp2_with fail
    refine (awake8_any _).mono ?_
    rintro e w0 ⟨rfl, b0⟩
    go_wp2_with fail
    refine (HC1.out _ b0.size).mono ?_
    rintro e w1 ⟨g1, O1, rfl, -, -, b1⟩
    go_wp2_with fail
    refine (HC2.out _).mono ?_
    rintro e w2 ⟨g2, vn, vp, vt, rfl, -, -, b2⟩
    go_wp2
    go_ret
    exact ⟨by first | rfl | simp, (b0.trans (b1.mono b0.size)).trans (b2.mono (Nat.le_trans b0.size b1.size))⟩
  go_enter Try.func5, Try.ntmps5
  go_wp2_with fail
  refine (awake8_any _).mono ?_
  rintro e w0 ⟨rfl, b0⟩
  go_wp2_with fail
  refine (HC1.out _ b0.size).mono ?_
  rintro e w1 ⟨g1, O1, rfl, K1, L1, b1⟩
  have HB1 := Lib.hid (b0.trans (b1.mono b0.size))
  have HK1 := Lib.hid K1
  have HL1 := Lib.hid L1
  clear K1 L1 b1 HC1
  go_wp2_with fail
  refine (HC2.out _).mono ?_
  rintro e w2 ⟨g2, vn, vp, vt0, rfl, R2, L2, b2⟩
  have hB2 : Both w w2 n g1 g2 vn vp 0 O1 (List.replicate n pn0) vt0 (List.replicate n 0) (List.replicate n false) [] :=
    ⟨HK1.out.after b2, R2, twin_new n, fun b h1 h2 => by have := HK1.out.top b h1; have := L2 b h2; omega, fun b h2 => Nat.le_trans HB1.out.size (L2 b h2), by simp, Nat.le_refl _, HB1.out.trans (b2.mono HB1.out.size)⟩
  have HB2 := Lib.hid hB2
  obtain ⟨bn, cn, hvn, hcn⟩ : ∃ bn cn, vn = .slice (some ⟨bn, 0, none⟩) n cn ∧ n ≤ cn := by
    obtain ⟨b, c', y, e, -, -, -, -, h⟩ := R2.now (i := 0) (by simp; omega)
    rw [List.length_replicate] at e h
    exact ⟨b, c', e, h⟩
  subst hvn
  clear hB2 R2 L2 b2 HK1 HL1 HB1 HC2 b0
  go_wp2
  go_loopw [10] (fun iv wr => ∃ (k : Nat) (O : Nat → Prop) (ns : List PN) (vt : Value) (N : List Nat) (P : List Bool) (l : List RT), k ≤ M ∧ iv = .int .i64 k ∧ Both w wr n g1 g2 (.slice (some ⟨bn, 0, none⟩) n cn) vp k O ns vt N P l) (fun iv _ => M - (intOf iv).toNat)
  case atStart => exact ⟨0, _, _, _, _, _, _, Nat.zero_le _, rfl, HB2.out⟩
  case round =>
    clear HB2
    obtain ⟨k, O, ns, vt, N, P, l, hk, rfl, hB⟩ := hrel
    have HB := Lib.hid hB
    clear hB
    by_cases hlt : k < M
    · obtain ⟨q, hq⟩ : ∃ q, os[k]? = some q := ⟨_, List.getElem?_eq_getElem (by rw [HM.out]; exact hlt)⟩
      have hqb := HOB.out q (List.mem_of_getElem? hq)
      have hsk := HS.out.after (by decide) HB.out.bel
      obtain ⟨ad, rfl, c0, c1, c2, c3⟩ := hsk.opAt hlt hq
      have hne : ad.block ≠ wr.heap.size := by have := hsk.lt (by decide) (by omega) rfl; omega
      obtain ⟨op, nd, id, a⟩ := q
      simp only at c0 c1 c2 c3 hqb
      have HQB := Lib.hid hqb
      have hob : Hid (¬ O wr.heap.size) := fun h => Nat.lt_irrefl _ (HB.out.K.top _ h)
      have BO := Blk.new wr 45 #[.int .i64 op, .int .i64 nd, .int .i64 id, .int .u64 (a : Int)]
      have HBO := Lib.hid BO
      have hB0 := HB.out.alloc (.cells #[.int .i64 op, .int .i64 nd, .int .i64 id, .int .u64 (a : Int)] 45)
      have HB0 := Lib.hid hB0
      have hlk : Hid (l.length ≤ 900) := by show _ ≤ _; have := HB.out.len; omega
      have hpick := pick ns nd
      clear hq hqb hsk BO hB0
      by_cases h1 : op = 1
      · subst h1
        rcases hpick with hno | ⟨i, p, rfl, hi⟩
        · have hC := ctick_no nd a (wr.alloc (.cells #[.int .i64 1, .int .i64 nd, .int .i64 id, .int .u64 (a : Int)] 45)) HB0.out.K hno
          have hR := rtick_no nd a HB0.out.R (by rw [HB.out.T.len]; exact hno)
          have HC := Lib.hid hC
          have HR := Lib.hid hR
          clear hC hR hno
          go_wp2_with fail
          refine HC.out.mono ?_
          rintro e _ ⟨rfl, rfl⟩
          go_wp2_with fail
          refine HR.out.mono ?_
          rintro e _ ⟨rfl, rfl⟩
          clear HC HR
          have hBT := HB0.out.more
          generalize wr.alloc (.cells #[.int .i64 1, .int .i64 nd, .int .i64 id, .int .u64 (a : Int)] 45) = w4 at hBT ⊢
          have HBT := Lib.hid hBT
          clear hBT HB HB0 HBO hob hlk HQB c0 c1 c2 c3 hne
          obtain ⟨D, hD⟩ := HBT.out.drift
          have hC := cdrift_eq D w4 HBT.out.K (by rw [HBT.out.nn]; omega) (by rw [HBT.out.nn]; omega) hD
          have hR := fun q => rdrift_any (HBT.out.R.drewN q) (D := D) (by rw [HBT.out.T.now]; exact hD)
          have HC := Lib.hid hC
          have HRD := Lib.hid hR
          clear hC hR hD
          go_wp2_with fail
          refine HC.out.mono ?_
          rintro e _ ⟨rfl, q1, rfl⟩
          go_wp2_with fail
          refine (HRD.out _).mono ?_
          rintro e _ ⟨rfl, q2, rfl⟩
          have hB5 := (HBT.out.drewN q1).drewN q2
          generalize (w4.drewN q1).drewN q2 = w5 at hB5 ⊢
          have HB5 := Lib.hid hB5
          clear hB5 HBT HC HRD
          go_wp2
          go_loopw [17] (fun kv wi => ∃ j : Nat, j ≤ n ∧ kv = .int .i64 j ∧ wi = w5) (fun kv _ => n - (intOf kv).toNat)
          case atStart => exact ⟨0, Nat.zero_le _, rfl, rfl⟩
          case round =>
            obtain ⟨j, hj, rfl, rfl⟩ := hrel
            by_cases hjl : j < n
            · obtain ⟨pj, hpj⟩ := List.getElem?_eq_some_iff.1 (List.getElem?_eq_getElem (show j < _ from (HB5.out.nn).symm ▸ hjl)) |> fun h => (⟨_, List.getElem?_eq_getElem h.1⟩ : ∃ p, _ = some p)
              have hC := cnow_ok j _ HB5.out.K hpj
              obtain ⟨b, cc, y, hvn, hy, hcell, -, -, -⟩ := HB5.out.R.now (i := j) (by rw [HB5.out.T.len, HB5.out.nn]; exact hjl)
              rw [HB5.out.T.nowAt hpj] at hy
              injection hy with hy
              subst hy
              injection hvn with e1 e2 e3
              injection e1 with e1
              injection e1 with e1
              subst e1
              obtain ⟨x0, x1, x2⟩ := HB5.out.R.blk.c3
              generalize pj.now = y at hC hcell
              have HC := Lib.hid hC
              clear hC hpj e2 e3
              go_wp2_with fail
              refine HC.out.mono ?_
              rintro e _ ⟨rfl, rfl⟩
              go_wp2
              go_roundw
              case rel => exact ⟨j + 1, by omega, by first | rfl | go_num, by first | trivial | rfl⟩
              case measure => simp [intOf]; omega
            · obtain rfl : j = n := by omega
              go_wp2
              go_roundw
              case rel => exact ⟨k + 1, _, _, _, _, _, _, by omega, by first | rfl | go_num, HB5.out⟩
              case measure => simp [intOf]; omega
        · have HI := Lib.hid hi
          have hiN : Hid (i < N.length) := by show _ < _; rw [HB.out.T.len]; exact (List.getElem?_eq_some_iff.1 hi).1
          clear hi
          by_cases hov : p.now + a < 18446744073709551616
          · have HOV := Lib.hid hov
            have hC := ctick_eq i a (wr.alloc (.cells #[.int .i64 1, .int .i64 (i : Int), .int .i64 id, .int .u64 (a : Int)] 45)) HB0.out.K HI.out rfl hov rfl
            have HC := Lib.hid hC
            clear hC hov
            go_wp2_with fail
            refine HC.out.mono ?_
            rintro e w3 ⟨rfl, O3, K3, s3, d3⟩
            clear HC
            obtain ⟨R3, hd3, hb3⟩ := HB0.out.left s3 d3
            have HR3 := Lib.hid R3
            have HD3 := Lib.hid hd3
            have HB3 := Lib.hid hb3
            have HK3 := Lib.hid K3
            have hbo3 := HBO.out.chg d3 hob.out
            obtain ⟨t0, t1, t2, t3⟩ : w3.cell? ⟨wr.heap.size, 0, none⟩ = some _ ∧ w3.cell? ⟨wr.heap.size, 1, none⟩ = some _ ∧ w3.cell? ⟨wr.heap.size, 2, none⟩ = some _ ∧ w3.cell? ⟨wr.heap.size, 3, none⟩ = some _ := ⟨hbo3.cell 0, hbo3.cell 1, hbo3.cell 2, hbo3.cell 3⟩
            simp at t0 t1 t2 t3
            clear R3 hd3 hb3 K3 s3 d3 hbo3
            have hR := rtick_ok i a HR3.out (HB.out.T.nowAt HI.out) HOV.out
            have HR := Lib.hid hR
            clear hR
            go_wp2_with fail
            refine HR.out.mono ?_
            rintro e w4 ⟨rfl, R4, d4⟩
            have hBT0 := both_right (n := n) (k := k + 1) HB0.out.low HK3.out HD3.out HB3.out R4 d4 (fun b hb => .inl hb) (HB.out.T.tick HI.out (p.now + a)) (by rw [List.length_set]; exact HB.out.nn) (Nat.le_succ_of_le HB.out.len)
            clear R4 d4 HR HR3 HD3 HB3 HK3 t0 t1 t2 t3
            have hBT := hBT0
            have HBT := Lib.hid hBT
            clear hBT HB HB0 HBO hob hlk HQB c0 c1 c2 c3 hne
            obtain ⟨D, hD⟩ := HBT.out.drift
            have hC := cdrift_eq D w4 HBT.out.K (by rw [HBT.out.nn]; omega) (by rw [HBT.out.nn]; omega) hD
            have hR := fun q => rdrift_any (HBT.out.R.drewN q) (D := D) (by rw [HBT.out.T.now]; exact hD)
            have HC := Lib.hid hC
            have HRD := Lib.hid hR
            clear hC hR hD
            go_wp2_with fail
            refine HC.out.mono ?_
            rintro e _ ⟨rfl, q1, rfl⟩
            go_wp2_with fail
            refine (HRD.out _).mono ?_
            rintro e _ ⟨rfl, q2, rfl⟩
            have hB5 := (HBT.out.drewN q1).drewN q2
            generalize (w4.drewN q1).drewN q2 = w5 at hB5 ⊢
            have HB5 := Lib.hid hB5
            clear hB5 HBT HC HRD
            go_wp2
            go_loopw [17] (fun kv wi => ∃ j : Nat, j ≤ n ∧ kv = .int .i64 j ∧ wi = w5) (fun kv _ => n - (intOf kv).toNat)
            case atStart => exact ⟨0, Nat.zero_le _, rfl, rfl⟩
            case round =>
              obtain ⟨j, hj, rfl, rfl⟩ := hrel
              by_cases hjl : j < n
              · obtain ⟨pj, hpj⟩ := List.getElem?_eq_some_iff.1 (List.getElem?_eq_getElem (show j < _ from (HB5.out.nn).symm ▸ hjl)) |> fun h => (⟨_, List.getElem?_eq_getElem h.1⟩ : ∃ p, _ = some p)
                have hC := cnow_ok j _ HB5.out.K hpj
                obtain ⟨b, cc, y, hvn, hy, hcell, -, -, -⟩ := HB5.out.R.now (i := j) (by rw [HB5.out.T.len, HB5.out.nn]; exact hjl)
                rw [HB5.out.T.nowAt hpj] at hy
                injection hy with hy
                subst hy
                injection hvn with e1 e2 e3
                injection e1 with e1
                injection e1 with e1
                subst e1
                obtain ⟨x0, x1, x2⟩ := HB5.out.R.blk.c3
                generalize pj.now = y at hC hcell
                have HC := Lib.hid hC
                clear hC hpj e2 e3
                go_wp2_with fail
                refine HC.out.mono ?_
                rintro e _ ⟨rfl, rfl⟩
                go_wp2
                go_roundw
                case rel => exact ⟨j + 1, by omega, by first | rfl | go_num, by first | trivial | rfl⟩
                case measure => simp [intOf]; omega
              · obtain rfl : j = n := by omega
                go_wp2
                go_roundw
                case rel => exact ⟨k + 1, _, _, _, _, _, _, by omega, by first | rfl | go_num, HB5.out⟩
                case measure => simp [intOf]; omega
          · have hC := ctick_full i a (wr.alloc (.cells #[.int .i64 1, .int .i64 (i : Int), .int .i64 id, .int .u64 (a : Int)] 45)) HB0.out.K HI.out HQB.out (Nat.le_of_not_lt hov)
            have hR := fun q => rtick_full i a (HB0.out.R.drewN q) (HB.out.T.nowAt HI.out) (Nat.le_of_not_lt hov)
            have HC := Lib.hid hC
            have HR := Lib.hid hR
            clear hC hR hov
            go_wp2_with fail
            refine HC.out.mono ?_
            rintro e _ ⟨rfl, q, rfl⟩
            go_wp2_with fail
            refine (HR.out _).mono ?_
            rintro e _ ⟨rfl, rfl⟩
            clear HC HR
            have hBT := (HB0.out.drewN q).more
            generalize (wr.alloc (.cells #[.int .i64 1, .int .i64 (i : Int), .int .i64 id, .int .u64 (a : Int)] 45)).drewN q = w4 at hBT ⊢
            have HBT := Lib.hid hBT
            clear hBT HB HB0 HBO hob hlk HQB c0 c1 c2 c3 hne
            obtain ⟨D, hD⟩ := HBT.out.drift
            have hC := cdrift_eq D w4 HBT.out.K (by rw [HBT.out.nn]; omega) (by rw [HBT.out.nn]; omega) hD
            have hR := fun q => rdrift_any (HBT.out.R.drewN q) (D := D) (by rw [HBT.out.T.now]; exact hD)
            have HC := Lib.hid hC
            have HRD := Lib.hid hR
            clear hC hR hD
            go_wp2_with fail
            refine HC.out.mono ?_
            rintro e _ ⟨rfl, q1, rfl⟩
            go_wp2_with fail
            refine (HRD.out _).mono ?_
            rintro e _ ⟨rfl, q2, rfl⟩
            have hB5 := (HBT.out.drewN q1).drewN q2
            generalize (w4.drewN q1).drewN q2 = w5 at hB5 ⊢
            have HB5 := Lib.hid hB5
            clear hB5 HBT HC HRD
            go_wp2
            go_loopw [17] (fun kv wi => ∃ j : Nat, j ≤ n ∧ kv = .int .i64 j ∧ wi = w5) (fun kv _ => n - (intOf kv).toNat)
            case atStart => exact ⟨0, Nat.zero_le _, rfl, rfl⟩
            case round =>
              obtain ⟨j, hj, rfl, rfl⟩ := hrel
              by_cases hjl : j < n
              · obtain ⟨pj, hpj⟩ := List.getElem?_eq_some_iff.1 (List.getElem?_eq_getElem (show j < _ from (HB5.out.nn).symm ▸ hjl)) |> fun h => (⟨_, List.getElem?_eq_getElem h.1⟩ : ∃ p, _ = some p)
                have hC := cnow_ok j _ HB5.out.K hpj
                obtain ⟨b, cc, y, hvn, hy, hcell, -, -, -⟩ := HB5.out.R.now (i := j) (by rw [HB5.out.T.len, HB5.out.nn]; exact hjl)
                rw [HB5.out.T.nowAt hpj] at hy
                injection hy with hy
                subst hy
                injection hvn with e1 e2 e3
                injection e1 with e1
                injection e1 with e1
                subst e1
                obtain ⟨x0, x1, x2⟩ := HB5.out.R.blk.c3
                generalize pj.now = y at hC hcell
                have HC := Lib.hid hC
                clear hC hpj e2 e3
                go_wp2_with fail
                refine HC.out.mono ?_
                rintro e _ ⟨rfl, rfl⟩
                go_wp2
                go_roundw
                case rel => exact ⟨j + 1, by omega, by first | rfl | go_num, by first | trivial | rfl⟩
                case measure => simp [intOf]; omega
              · obtain rfl : j = n := by omega
                go_wp2
                go_roundw
                case rel => exact ⟨k + 1, _, _, _, _, _, _, by omega, by first | rfl | go_num, HB5.out⟩
                case measure => simp [intOf]; omega
      by_cases h2 : op = 2
      · subst h2
        rcases hpick with hno | ⟨i, p, rfl, hi⟩
        · have hC := cset_no nd id a (wr.alloc (.cells #[.int .i64 2, .int .i64 nd, .int .i64 id, .int .u64 (a : Int)] 45)) HB0.out.K hno
          have hR := rset_no nd id a HB0.out.R (by rw [HB.out.T.len]; exact hno)
          have HC := Lib.hid hC
          have HR := Lib.hid hR
          clear hC hR hno
          go_wp2_with fail
          refine HC.out.mono ?_
          rintro e _ ⟨rfl, rfl⟩
          go_wp2_with fail
          refine HR.out.mono ?_
          rintro e _ ⟨rfl, rfl⟩
          clear HC HR
          have hBT := HB0.out.more
          generalize wr.alloc (.cells #[.int .i64 2, .int .i64 nd, .int .i64 id, .int .u64 (a : Int)] 45) = w4 at hBT ⊢
          have HBT := Lib.hid hBT
          clear hBT HB HB0 HBO hob hlk HQB c0 c1 c2 c3 hne
          obtain ⟨D, hD⟩ := HBT.out.drift
          have hC := cdrift_eq D w4 HBT.out.K (by rw [HBT.out.nn]; omega) (by rw [HBT.out.nn]; omega) hD
          have hR := fun q => rdrift_any (HBT.out.R.drewN q) (D := D) (by rw [HBT.out.T.now]; exact hD)
          have HC := Lib.hid hC
          have HRD := Lib.hid hR
          clear hC hR hD
          go_wp2_with fail
          refine HC.out.mono ?_
          rintro e _ ⟨rfl, q1, rfl⟩
          go_wp2_with fail
          refine (HRD.out _).mono ?_
          rintro e _ ⟨rfl, q2, rfl⟩
          have hB5 := (HBT.out.drewN q1).drewN q2
          generalize (w4.drewN q1).drewN q2 = w5 at hB5 ⊢
          have HB5 := Lib.hid hB5
          clear hB5 HBT HC HRD
          go_wp2
          go_loopw [17] (fun kv wi => ∃ j : Nat, j ≤ n ∧ kv = .int .i64 j ∧ wi = w5) (fun kv _ => n - (intOf kv).toNat)
          case atStart => exact ⟨0, Nat.zero_le _, rfl, rfl⟩
          case round =>
            obtain ⟨j, hj, rfl, rfl⟩ := hrel
            by_cases hjl : j < n
            · obtain ⟨pj, hpj⟩ := List.getElem?_eq_some_iff.1 (List.getElem?_eq_getElem (show j < _ from (HB5.out.nn).symm ▸ hjl)) |> fun h => (⟨_, List.getElem?_eq_getElem h.1⟩ : ∃ p, _ = some p)
              have hC := cnow_ok j _ HB5.out.K hpj
              obtain ⟨b, cc, y, hvn, hy, hcell, -, -, -⟩ := HB5.out.R.now (i := j) (by rw [HB5.out.T.len, HB5.out.nn]; exact hjl)
              rw [HB5.out.T.nowAt hpj] at hy
              injection hy with hy
              subst hy
              injection hvn with e1 e2 e3
              injection e1 with e1
              injection e1 with e1
              subst e1
              obtain ⟨x0, x1, x2⟩ := HB5.out.R.blk.c3
              generalize pj.now = y at hC hcell
              have HC := Lib.hid hC
              clear hC hpj e2 e3
              go_wp2_with fail
              refine HC.out.mono ?_
              rintro e _ ⟨rfl, rfl⟩
              go_wp2
              go_roundw
              case rel => exact ⟨j + 1, by omega, by first | rfl | go_num, by first | trivial | rfl⟩
              case measure => simp [intOf]; omega
            · obtain rfl : j = n := by omega
              go_wp2
              go_roundw
              case rel => exact ⟨k + 1, _, _, _, _, _, _, by omega, by first | rfl | go_num, HB5.out⟩
              case measure => simp [intOf]; omega
        · have HI := Lib.hid hi
          have hiN : Hid (i < N.length) := by show _ < _; rw [HB.out.T.len]; exact (List.getElem?_eq_some_iff.1 hi).1
          clear hi
          obtain ⟨p', E, hset⟩ : ∃ p' E, p.set id a = (p', E) := ⟨_, _, rfl⟩
          obtain ⟨l', hrs, hT', hl'⟩ := HB.out.T.set HI.out hset
          have hC := cset_any i id a (wr.alloc (.cells #[.int .i64 2, .int .i64 (i : Int), .int .i64 id, .int .u64 (a : Int)] 45)) HB0.out.K HI.out HQB.out hset
          have HC := Lib.hid hC
          have HT' := Lib.hid hT'
          have HRS := Lib.hid hrs
          have HL' := Lib.hid hl'
          clear hC hset hrs hT' hl'
          go_wp2_with fail
          refine HC.out.mono ?_
          rintro e w3 ⟨rfl, O3, K3, s3, d3⟩
          clear HC
          obtain ⟨R3, hd3, hb3⟩ := HB0.out.left s3 d3
          have HR3 := Lib.hid R3
          have HD3 := Lib.hid hd3
          have HB3 := Lib.hid hb3
          have HK3 := Lib.hid K3
          have hbo3 := HBO.out.chg d3 hob.out
          obtain ⟨t0, t1, t2, t3⟩ : w3.cell? ⟨wr.heap.size, 0, none⟩ = some _ ∧ w3.cell? ⟨wr.heap.size, 1, none⟩ = some _ ∧ w3.cell? ⟨wr.heap.size, 2, none⟩ = some _ ∧ w3.cell? ⟨wr.heap.size, 3, none⟩ = some _ := ⟨hbo3.cell 0, hbo3.cell 1, hbo3.cell 2, hbo3.cell 3⟩
          simp at t0 t1 t2 t3
          clear R3 hd3 hb3 K3 s3 d3 hbo3
          have hR := rset_any i id a HR3.out (HB.out.T.nowAt HI.out) hlk.out HRS.out
          have HR := Lib.hid hR
          clear hR
          go_wp2_with fail
          refine HR.out.mono ?_
          rintro e w4 ⟨vt', rfl, R4, d4, hvt⟩
          have hBT0 := both_right (n := n) (k := k + 1) HB0.out.low HK3.out HD3.out HB3.out R4 d4 hvt HT'.out (by rw [List.length_set]; exact HB.out.nn) (Nat.le_trans HL'.out (Nat.succ_le_succ HB.out.len))
          clear R4 d4 hvt HR HR3 HD3 HB3 HK3 t0 t1 t2 t3 HT' HRS HL'
          have hBT := hBT0
          have HBT := Lib.hid hBT
          clear hBT HB HB0 HBO hob hlk HQB c0 c1 c2 c3 hne
          obtain ⟨D, hD⟩ := HBT.out.drift
          have hC := cdrift_eq D w4 HBT.out.K (by rw [HBT.out.nn]; omega) (by rw [HBT.out.nn]; omega) hD
          have hR := fun q => rdrift_any (HBT.out.R.drewN q) (D := D) (by rw [HBT.out.T.now]; exact hD)
          have HC := Lib.hid hC
          have HRD := Lib.hid hR
          clear hC hR hD
          go_wp2_with fail
          refine HC.out.mono ?_
          rintro e _ ⟨rfl, q1, rfl⟩
          go_wp2_with fail
          refine (HRD.out _).mono ?_
          rintro e _ ⟨rfl, q2, rfl⟩
          have hB5 := (HBT.out.drewN q1).drewN q2
          generalize (w4.drewN q1).drewN q2 = w5 at hB5 ⊢
          have HB5 := Lib.hid hB5
          clear hB5 HBT HC HRD
          go_wp2
          go_loopw [17] (fun kv wi => ∃ j : Nat, j ≤ n ∧ kv = .int .i64 j ∧ wi = w5) (fun kv _ => n - (intOf kv).toNat)
          case atStart => exact ⟨0, Nat.zero_le _, rfl, rfl⟩
          case round =>
            obtain ⟨j, hj, rfl, rfl⟩ := hrel
            by_cases hjl : j < n
            · obtain ⟨pj, hpj⟩ := List.getElem?_eq_some_iff.1 (List.getElem?_eq_getElem (show j < _ from (HB5.out.nn).symm ▸ hjl)) |> fun h => (⟨_, List.getElem?_eq_getElem h.1⟩ : ∃ p, _ = some p)
              have hC := cnow_ok j _ HB5.out.K hpj
              obtain ⟨b, cc, y, hvn, hy, hcell, -, -, -⟩ := HB5.out.R.now (i := j) (by rw [HB5.out.T.len, HB5.out.nn]; exact hjl)
              rw [HB5.out.T.nowAt hpj] at hy
              injection hy with hy
              subst hy
              injection hvn with e1 e2 e3
              injection e1 with e1
              injection e1 with e1
              subst e1
              obtain ⟨x0, x1, x2⟩ := HB5.out.R.blk.c3
              generalize pj.now = y at hC hcell
              have HC := Lib.hid hC
              clear hC hpj e2 e3
              go_wp2_with fail
              refine HC.out.mono ?_
              rintro e _ ⟨rfl, rfl⟩
              go_wp2
              go_roundw
              case rel => exact ⟨j + 1, by omega, by first | rfl | go_num, by first | trivial | rfl⟩
              case measure => simp [intOf]; omega
            · obtain rfl : j = n := by omega
              go_wp2
              go_roundw
              case rel => exact ⟨k + 1, _, _, _, _, _, _, by omega, by first | rfl | go_num, HB5.out⟩
              case measure => simp [intOf]; omega
      by_cases h3 : op = 3
      · subst h3
        rcases hpick with hno | ⟨i, p, rfl, hi⟩
        · have hC := cstop_no nd id (wr.alloc (.cells #[.int .i64 3, .int .i64 nd, .int .i64 id, .int .u64 (a : Int)] 45)) HB0.out.K hno
          have hR := rstop_no nd id HB0.out.R (by rw [HB.out.T.len]; exact hno)
          have HC := Lib.hid hC
          have HR := Lib.hid hR
          clear hC hR hno
          go_wp2_with fail
          refine HC.out.mono ?_
          rintro e _ ⟨rfl, rfl⟩
          go_wp2_with fail
          refine HR.out.mono ?_
          rintro e _ ⟨rfl, rfl⟩
          clear HC HR
          have hBT := HB0.out.more
          generalize wr.alloc (.cells #[.int .i64 3, .int .i64 nd, .int .i64 id, .int .u64 (a : Int)] 45) = w4 at hBT ⊢
          have HBT := Lib.hid hBT
          clear hBT HB HB0 HBO hob hlk HQB c0 c1 c2 c3 hne
          obtain ⟨D, hD⟩ := HBT.out.drift
          have hC := cdrift_eq D w4 HBT.out.K (by rw [HBT.out.nn]; omega) (by rw [HBT.out.nn]; omega) hD
          have hR := fun q => rdrift_any (HBT.out.R.drewN q) (D := D) (by rw [HBT.out.T.now]; exact hD)
          have HC := Lib.hid hC
          have HRD := Lib.hid hR
          clear hC hR hD
          go_wp2_with fail
          refine HC.out.mono ?_
          rintro e _ ⟨rfl, q1, rfl⟩
          go_wp2_with fail
          refine (HRD.out _).mono ?_
          rintro e _ ⟨rfl, q2, rfl⟩
          have hB5 := (HBT.out.drewN q1).drewN q2
          generalize (w4.drewN q1).drewN q2 = w5 at hB5 ⊢
          have HB5 := Lib.hid hB5
          clear hB5 HBT HC HRD
          go_wp2
          go_loopw [17] (fun kv wi => ∃ j : Nat, j ≤ n ∧ kv = .int .i64 j ∧ wi = w5) (fun kv _ => n - (intOf kv).toNat)
          case atStart => exact ⟨0, Nat.zero_le _, rfl, rfl⟩
          case round =>
            obtain ⟨j, hj, rfl, rfl⟩ := hrel
            by_cases hjl : j < n
            · obtain ⟨pj, hpj⟩ := List.getElem?_eq_some_iff.1 (List.getElem?_eq_getElem (show j < _ from (HB5.out.nn).symm ▸ hjl)) |> fun h => (⟨_, List.getElem?_eq_getElem h.1⟩ : ∃ p, _ = some p)
              have hC := cnow_ok j _ HB5.out.K hpj
              obtain ⟨b, cc, y, hvn, hy, hcell, -, -, -⟩ := HB5.out.R.now (i := j) (by rw [HB5.out.T.len, HB5.out.nn]; exact hjl)
              rw [HB5.out.T.nowAt hpj] at hy
              injection hy with hy
              subst hy
              injection hvn with e1 e2 e3
              injection e1 with e1
              injection e1 with e1
              subst e1
              obtain ⟨x0, x1, x2⟩ := HB5.out.R.blk.c3
              generalize pj.now = y at hC hcell
              have HC := Lib.hid hC
              clear hC hpj e2 e3
              go_wp2_with fail
              refine HC.out.mono ?_
              rintro e _ ⟨rfl, rfl⟩
              go_wp2
              go_roundw
              case rel => exact ⟨j + 1, by omega, by first | rfl | go_num, by first | trivial | rfl⟩
              case measure => simp [intOf]; omega
            · obtain rfl : j = n := by omega
              go_wp2
              go_roundw
              case rel => exact ⟨k + 1, _, _, _, _, _, _, by omega, by first | rfl | go_num, HB5.out⟩
              case measure => simp [intOf]; omega
        · have HI := Lib.hid hi
          have hiN : Hid (i < N.length) := by show _ < _; rw [HB.out.T.len]; exact (List.getElem?_eq_some_iff.1 hi).1
          clear hi
          obtain ⟨p', E, hset⟩ : ∃ p' E, p.stop id = (p', E) := ⟨_, _, rfl⟩
          obtain ⟨l', hrs, hT', hl'⟩ := HB.out.T.stop HI.out hset
          have hC := cstop_any i id (wr.alloc (.cells #[.int .i64 3, .int .i64 (i : Int), .int .i64 id, .int .u64 (a : Int)] 45)) HB0.out.K HI.out hset
          have HC := Lib.hid hC
          have HT' := Lib.hid hT'
          have HRS := Lib.hid hrs
          have HL' := Lib.hid hl'
          clear hC hset hrs hT' hl'
          go_wp2_with fail
          refine HC.out.mono ?_
          rintro e w3 ⟨rfl, O3, K3, s3, d3⟩
          clear HC
          obtain ⟨R3, hd3, hb3⟩ := HB0.out.left s3 d3
          have HR3 := Lib.hid R3
          have HD3 := Lib.hid hd3
          have HB3 := Lib.hid hb3
          have HK3 := Lib.hid K3
          have hbo3 := HBO.out.chg d3 hob.out
          obtain ⟨t0, t1, t2, t3⟩ : w3.cell? ⟨wr.heap.size, 0, none⟩ = some _ ∧ w3.cell? ⟨wr.heap.size, 1, none⟩ = some _ ∧ w3.cell? ⟨wr.heap.size, 2, none⟩ = some _ ∧ w3.cell? ⟨wr.heap.size, 3, none⟩ = some _ := ⟨hbo3.cell 0, hbo3.cell 1, hbo3.cell 2, hbo3.cell 3⟩
          simp at t0 t1 t2 t3
          clear R3 hd3 hb3 K3 s3 d3 hbo3
          have hR := rstop_any i id HR3.out hiN.out HRS.out
          have HR := Lib.hid hR
          clear hR
          go_wp2_with fail
          refine HR.out.mono ?_
          rintro e w4 ⟨vt', rfl, R4, d4, hvt⟩
          have hBT0 := both_right (n := n) (k := k + 1) HB0.out.low HK3.out HD3.out HB3.out R4 d4 hvt HT'.out (by rw [List.length_set]; exact HB.out.nn) (Nat.le_succ_of_le (Nat.le_trans HL'.out HB.out.len))
          clear R4 d4 hvt HR HR3 HD3 HB3 HK3 t0 t1 t2 t3 HT' HRS HL'
          have hBT := hBT0
          have HBT := Lib.hid hBT
          clear hBT HB HB0 HBO hob hlk HQB c0 c1 c2 c3 hne
          obtain ⟨D, hD⟩ := HBT.out.drift
          have hC := cdrift_eq D w4 HBT.out.K (by rw [HBT.out.nn]; omega) (by rw [HBT.out.nn]; omega) hD
          have hR := fun q => rdrift_any (HBT.out.R.drewN q) (D := D) (by rw [HBT.out.T.now]; exact hD)
          have HC := Lib.hid hC
          have HRD := Lib.hid hR
          clear hC hR hD
          go_wp2_with fail
          refine HC.out.mono ?_
          rintro e _ ⟨rfl, q1, rfl⟩
          go_wp2_with fail
          refine (HRD.out _).mono ?_
          rintro e _ ⟨rfl, q2, rfl⟩
          have hB5 := (HBT.out.drewN q1).drewN q2
          generalize (w4.drewN q1).drewN q2 = w5 at hB5 ⊢
          have HB5 := Lib.hid hB5
          clear hB5 HBT HC HRD
          go_wp2
          go_loopw [17] (fun kv wi => ∃ j : Nat, j ≤ n ∧ kv = .int .i64 j ∧ wi = w5) (fun kv _ => n - (intOf kv).toNat)
          case atStart => exact ⟨0, Nat.zero_le _, rfl, rfl⟩
          case round =>
            obtain ⟨j, hj, rfl, rfl⟩ := hrel
            by_cases hjl : j < n
            · obtain ⟨pj, hpj⟩ := List.getElem?_eq_some_iff.1 (List.getElem?_eq_getElem (show j < _ from (HB5.out.nn).symm ▸ hjl)) |> fun h => (⟨_, List.getElem?_eq_getElem h.1⟩ : ∃ p, _ = some p)
              have hC := cnow_ok j _ HB5.out.K hpj
              obtain ⟨b, cc, y, hvn, hy, hcell, -, -, -⟩ := HB5.out.R.now (i := j) (by rw [HB5.out.T.len, HB5.out.nn]; exact hjl)
              rw [HB5.out.T.nowAt hpj] at hy
              injection hy with hy
              subst hy
              injection hvn with e1 e2 e3
              injection e1 with e1
              injection e1 with e1
              subst e1
              obtain ⟨x0, x1, x2⟩ := HB5.out.R.blk.c3
              generalize pj.now = y at hC hcell
              have HC := Lib.hid hC
              clear hC hpj e2 e3
              go_wp2_with fail
              refine HC.out.mono ?_
              rintro e _ ⟨rfl, rfl⟩
              go_wp2
              go_roundw
              case rel => exact ⟨j + 1, by omega, by first | rfl | go_num, by first | trivial | rfl⟩
              case measure => simp [intOf]; omega
            · obtain rfl : j = n := by omega
              go_wp2
              go_roundw
              case rel => exact ⟨k + 1, _, _, _, _, _, _, by omega, by first | rfl | go_num, HB5.out⟩
              case measure => simp [intOf]; omega
      by_cases h4 : op = 4
      · subst h4
        rcases hpick with hno | ⟨i, p, rfl, hi⟩
        · have hC := cdue_no nd (wr.alloc (.cells #[.int .i64 4, .int .i64 nd, .int .i64 id, .int .u64 (a : Int)] 45)) HB0.out.K hno
          have hR := rdue_no nd HB0.out.R (by rw [HB.out.T.len]; exact hno)
          have HC := Lib.hid hC
          have HR := Lib.hid hR
          clear hC hR hno
          go_wp2_with fail
          refine HC.out.mono ?_
          rintro e _ ⟨rfl, rfl⟩
          go_wp2_with fail
          refine HR.out.mono ?_
          rintro e _ ⟨rfl, rfl⟩
          clear HC HR
          have hN := numbers_eq (A := none) (B := none) (n := 0) (m := 0) (c := 0) (d := 0) [] [] (wr.alloc (.cells #[.int .i64 4, .int .i64 nd, .int .i64 id, .int .u64 (a : Int)] 45)) true (Sl.nil_ _ 0 0 1) (Sl.nil_ _ 0 0 1) rfl
          have HN := Lib.hid hN
          clear hN
          go_wp2_with fail
          refine HN.out.mono ?_
          rintro e _ ⟨rfl, q, rfl⟩
          clear HN
          have hBT := (HB0.out.drewN q).more
          generalize (wr.alloc (.cells #[.int .i64 4, .int .i64 nd, .int .i64 id, .int .u64 (a : Int)] 45)).drewN q = w4 at hBT ⊢
          have HBT := Lib.hid hBT
          clear hBT HB HB0 HBO hob hlk HQB c0 c1 c2 c3 hne
          obtain ⟨D, hD⟩ := HBT.out.drift
          have hC := cdrift_eq D w4 HBT.out.K (by rw [HBT.out.nn]; omega) (by rw [HBT.out.nn]; omega) hD
          have hR := fun q => rdrift_any (HBT.out.R.drewN q) (D := D) (by rw [HBT.out.T.now]; exact hD)
          have HC := Lib.hid hC
          have HRD := Lib.hid hR
          clear hC hR hD
          go_wp2_with fail
          refine HC.out.mono ?_
          rintro e _ ⟨rfl, q1, rfl⟩
          go_wp2_with fail
          refine (HRD.out _).mono ?_
          rintro e _ ⟨rfl, q2, rfl⟩
          have hB5 := (HBT.out.drewN q1).drewN q2
          generalize (w4.drewN q1).drewN q2 = w5 at hB5 ⊢
          have HB5 := Lib.hid hB5
          clear hB5 HBT HC HRD
          go_wp2
          go_loopw [17] (fun kv wi => ∃ j : Nat, j ≤ n ∧ kv = .int .i64 j ∧ wi = w5) (fun kv _ => n - (intOf kv).toNat)
          case atStart => exact ⟨0, Nat.zero_le _, rfl, rfl⟩
          case round =>
            obtain ⟨j, hj, rfl, rfl⟩ := hrel
            by_cases hjl : j < n
            · obtain ⟨pj, hpj⟩ := List.getElem?_eq_some_iff.1 (List.getElem?_eq_getElem (show j < _ from (HB5.out.nn).symm ▸ hjl)) |> fun h => (⟨_, List.getElem?_eq_getElem h.1⟩ : ∃ p, _ = some p)
              have hC := cnow_ok j _ HB5.out.K hpj
              obtain ⟨b, cc, y, hvn, hy, hcell, -, -, -⟩ := HB5.out.R.now (i := j) (by rw [HB5.out.T.len, HB5.out.nn]; exact hjl)
              rw [HB5.out.T.nowAt hpj] at hy
              injection hy with hy
              subst hy
              injection hvn with e1 e2 e3
              injection e1 with e1
              injection e1 with e1
              subst e1
              obtain ⟨x0, x1, x2⟩ := HB5.out.R.blk.c3
              generalize pj.now = y at hC hcell
              have HC := Lib.hid hC
              clear hC hpj e2 e3
              go_wp2_with fail
              refine HC.out.mono ?_
              rintro e _ ⟨rfl, rfl⟩
              go_wp2
              go_roundw
              case rel => exact ⟨j + 1, by omega, by first | rfl | go_num, by first | trivial | rfl⟩
              case measure => simp [intOf]; omega
            · obtain rfl : j = n := by omega
              go_wp2
              go_roundw
              case rel => exact ⟨k + 1, _, _, _, _, _, _, by omega, by first | rfl | go_num, HB5.out⟩
              case measure => simp [intOf]; omega
        · have HI := Lib.hid hi
          have hiN : Hid (i < N.length) := by show _ < _; rw [HB.out.T.len]; exact (List.getElem?_eq_some_iff.1 hi).1
          clear hi
          cases hpz : p.paused with
          | true =>
            have hC := cdue_paused i (wr.alloc (.cells #[.int .i64 4, .int .i64 (i : Int), .int .i64 id, .int .u64 (a : Int)] 45)) HB0.out.K HI.out hpz
            have hR := rdue_paused i HB0.out.R (by rw [HB.out.T.pzAt HI.out, hpz])
            have HC := Lib.hid hC
            have HR := Lib.hid hR
            clear hC hR hpz
            go_wp2_with fail
            refine HC.out.mono ?_
            rintro e _ ⟨rfl, rfl⟩
            go_wp2_with fail
            refine HR.out.mono ?_
            rintro e _ ⟨rfl, rfl⟩
            clear HC HR
            have hN := numbers_eq (A := none) (B := none) (n := 0) (m := 0) (c := 0) (d := 0) [] [] (wr.alloc (.cells #[.int .i64 4, .int .i64 (i : Int), .int .i64 id, .int .u64 (a : Int)] 45)) true (Sl.nil_ _ 0 0 1) (Sl.nil_ _ 0 0 1) rfl
            have HN := Lib.hid hN
            clear hN
            go_wp2_with fail
            refine HN.out.mono ?_
            rintro e _ ⟨rfl, q, rfl⟩
            clear HN
            have hBT := (HB0.out.drewN q).more
            generalize (wr.alloc (.cells #[.int .i64 4, .int .i64 (i : Int), .int .i64 id, .int .u64 (a : Int)] 45)).drewN q = w4 at hBT ⊢
            have HBT := Lib.hid hBT
            clear hBT HB HB0 HBO hob hlk HQB c0 c1 c2 c3 hne
            obtain ⟨D, hD⟩ := HBT.out.drift
            have hC := cdrift_eq D w4 HBT.out.K (by rw [HBT.out.nn]; omega) (by rw [HBT.out.nn]; omega) hD
            have hR := fun q => rdrift_any (HBT.out.R.drewN q) (D := D) (by rw [HBT.out.T.now]; exact hD)
            have HC := Lib.hid hC
            have HRD := Lib.hid hR
            clear hC hR hD
            go_wp2_with fail
            refine HC.out.mono ?_
            rintro e _ ⟨rfl, q1, rfl⟩
            go_wp2_with fail
            refine (HRD.out _).mono ?_
            rintro e _ ⟨rfl, q2, rfl⟩
            have hB5 := (HBT.out.drewN q1).drewN q2
            generalize (w4.drewN q1).drewN q2 = w5 at hB5 ⊢
            have HB5 := Lib.hid hB5
            clear hB5 HBT HC HRD
            go_wp2
            go_loopw [17] (fun kv wi => ∃ j : Nat, j ≤ n ∧ kv = .int .i64 j ∧ wi = w5) (fun kv _ => n - (intOf kv).toNat)
            case atStart => exact ⟨0, Nat.zero_le _, rfl, rfl⟩
            case round =>
              obtain ⟨j, hj, rfl, rfl⟩ := hrel
              by_cases hjl : j < n
              · obtain ⟨pj, hpj⟩ := List.getElem?_eq_some_iff.1 (List.getElem?_eq_getElem (show j < _ from (HB5.out.nn).symm ▸ hjl)) |> fun h => (⟨_, List.getElem?_eq_getElem h.1⟩ : ∃ p, _ = some p)
                have hC := cnow_ok j _ HB5.out.K hpj
                obtain ⟨b, cc, y, hvn, hy, hcell, -, -, -⟩ := HB5.out.R.now (i := j) (by rw [HB5.out.T.len, HB5.out.nn]; exact hjl)
                rw [HB5.out.T.nowAt hpj] at hy
                injection hy with hy
                subst hy
                injection hvn with e1 e2 e3
                injection e1 with e1
                injection e1 with e1
                subst e1
                obtain ⟨x0, x1, x2⟩ := HB5.out.R.blk.c3
                generalize pj.now = y at hC hcell
                have HC := Lib.hid hC
                clear hC hpj e2 e3
                go_wp2_with fail
                refine HC.out.mono ?_
                rintro e _ ⟨rfl, rfl⟩
                go_wp2
                go_roundw
                case rel => exact ⟨j + 1, by omega, by first | rfl | go_num, by first | trivial | rfl⟩
                case measure => simp [intOf]; omega
              · obtain rfl : j = n := by omega
                go_wp2
                go_roundw
                case rel => exact ⟨k + 1, _, _, _, _, _, _, by omega, by first | rfl | go_num, HB5.out⟩
                case measure => simp [intOf]; omega
          | false =>
            have hC := cdue_eq i (wr.alloc (.cells #[.int .i64 4, .int .i64 (i : Int), .int .i64 id, .int .u64 (a : Int)] 45)) HB0.out.K HI.out hpz rfl rfl rfl
            have HC := Lib.hid hC
            have HPZ := Lib.hid hpz
            clear hC hpz
            go_wp2_with fail
            refine HC.out.mono ?_
            rintro e w3 ⟨v3, O3, rfl, Q3, K3, s3, d3, a3⟩
            clear HC
            obtain ⟨A3, c3', hv3, -⟩ := own_sl Q3.own
            subst hv3
            have hoff : Hid (∀ b, (Value.slice A3 (tsort (lates p)).length c3').ownBlock = some b → ¬ ROwn g2 (.slice (some ⟨bn, 0, none⟩) n cn) vp vt b) := fun b hb hr => by have := a3 b hb; have := HB0.out.R.top b hr; omega
            have HQ3 := Lib.hid Q3
            obtain ⟨m3, hm3⟩ : ∃ m3, (tsort (lates p)).length = m3 := ⟨_, rfl⟩
            have HM3 := Lib.hid hm3
            simp only [hm3] at hoff ⊢
            clear Q3 a3 hm3
            obtain ⟨R3, hd3, hb3⟩ := HB0.out.left s3 d3
            have HR3 := Lib.hid R3
            have HD3 := Lib.hid hd3
            have HB3 := Lib.hid hb3
            have HK3 := Lib.hid K3
            have hbo3 := HBO.out.chg d3 hob.out
            obtain ⟨t0, t1, t2, t3⟩ : w3.cell? ⟨wr.heap.size, 0, none⟩ = some _ ∧ w3.cell? ⟨wr.heap.size, 1, none⟩ = some _ ∧ w3.cell? ⟨wr.heap.size, 2, none⟩ = some _ ∧ w3.cell? ⟨wr.heap.size, 3, none⟩ = some _ := ⟨hbo3.cell 0, hbo3.cell 1, hbo3.cell 2, hbo3.cell 3⟩
            simp at t0 t1 t2 t3
            clear R3 hd3 hb3 K3 s3 d3 hbo3
            have hR := rdue_ok i HR3.out (HB.out.T.nowAt HI.out) (by rw [HB.out.T.pzAt HI.out, HPZ.out]) (HB.out.T.nodup HI.out)
            have hlt2 : tsort (rlate (i : Int) p.now l) = tsort (lates p) := ((HB.out.T.like i p HI.out).late).symm
            rw [hlt2] at hR
            have HR := Lib.hid hR
            clear hR hlt2
            go_wp2_with fail
            refine HR.out.mono ?_
            rintro e w4 ⟨v4, vt', l2, rfl, own4, R4, d4, hvt, h0, hDI⟩
            have hBT0 := both_right (n := n) (k := k + 1) HB0.out.low HK3.out HD3.out HB3.out R4 d4 hvt (HB.out.T.due HI.out h0 hDI) (by rw [List.length_set]; exact HB.out.nn) (Nat.le_succ_of_le (Nat.le_trans hDI.len HB.out.len))
            have q3 := own_chg HQ3.out.own d4 (by have := hoff.out; rw [← HM3.out] at this; exact this)
            have r3 : Res w4 (fun _ => False) _ (tsort (lates p)) := ⟨q3, fun _ _ h => h⟩
            have r4 : Res w4 (fun _ => False) v4 (tsort (lates p)) := ⟨own_wide own4 (Nat.zero_le _), fun _ _ h => h⟩
            obtain ⟨A4, c4', hv4, -⟩ := own_sl r4.own
            subst hv4
            have hN := numbers_eq ((tsort (lates p)).map (·.1)) ((tsort (lates p)).map (·.1)) w4 true r3.sl r4.sl (beq_self_eq_true _)
            simp only [HM3.out] at hN ⊢
            have HN := Lib.hid hN
            have HBT0 := Lib.hid hBT0
            clear hN r3 r4 q3 own4 R4 d4 hvt h0 hDI HR HR3 HD3 HB3 HK3 t0 t1 t2 t3 hoff HM3 HQ3 HPZ hBT0
            go_wp2_with fail
            refine HN.out.mono ?_
            rintro e _ ⟨rfl, q, rfl⟩
            clear HN
            have hBT := HBT0.out.drewN q
            generalize w4.drewN q = w4 at hBT ⊢
            have HBT := Lib.hid hBT
            clear hBT HB HB0 HBO hob hlk HQB c0 c1 c2 c3 hne
            obtain ⟨D, hD⟩ := HBT.out.drift
            have hC := cdrift_eq D w4 HBT.out.K (by rw [HBT.out.nn]; omega) (by rw [HBT.out.nn]; omega) hD
            have hR := fun q => rdrift_any (HBT.out.R.drewN q) (D := D) (by rw [HBT.out.T.now]; exact hD)
            have HC := Lib.hid hC
            have HRD := Lib.hid hR
            clear hC hR hD
            go_wp2_with fail
            refine HC.out.mono ?_
            rintro e _ ⟨rfl, q1, rfl⟩
            go_wp2_with fail
            refine (HRD.out _).mono ?_
            rintro e _ ⟨rfl, q2, rfl⟩
            have hB5 := (HBT.out.drewN q1).drewN q2
            generalize (w4.drewN q1).drewN q2 = w5 at hB5 ⊢
            have HB5 := Lib.hid hB5
            clear hB5 HBT HC HRD
            go_wp2
            go_loopw [17] (fun kv wi => ∃ j : Nat, j ≤ n ∧ kv = .int .i64 j ∧ wi = w5) (fun kv _ => n - (intOf kv).toNat)
            case atStart => exact ⟨0, Nat.zero_le _, rfl, rfl⟩
            case round =>
              obtain ⟨j, hj, rfl, rfl⟩ := hrel
              by_cases hjl : j < n
              · obtain ⟨pj, hpj⟩ := List.getElem?_eq_some_iff.1 (List.getElem?_eq_getElem (show j < _ from (HB5.out.nn).symm ▸ hjl)) |> fun h => (⟨_, List.getElem?_eq_getElem h.1⟩ : ∃ p, _ = some p)
                have hC := cnow_ok j _ HB5.out.K hpj
                obtain ⟨b, cc, y, hvn, hy, hcell, -, -, -⟩ := HB5.out.R.now (i := j) (by rw [HB5.out.T.len, HB5.out.nn]; exact hjl)
                rw [HB5.out.T.nowAt hpj] at hy
                injection hy with hy
                subst hy
                injection hvn with e1 e2 e3
                injection e1 with e1
                injection e1 with e1
                subst e1
                obtain ⟨x0, x1, x2⟩ := HB5.out.R.blk.c3
                generalize pj.now = y at hC hcell
                have HC := Lib.hid hC
                clear hC hpj e2 e3
                go_wp2_with fail
                refine HC.out.mono ?_
                rintro e _ ⟨rfl, rfl⟩
                go_wp2
                go_roundw
                case rel => exact ⟨j + 1, by omega, by first | rfl | go_num, by first | trivial | rfl⟩
                case measure => simp [intOf]; omega
              · obtain rfl : j = n := by omega
                go_wp2
                go_roundw
                case rel => exact ⟨k + 1, _, _, _, _, _, _, by omega, by first | rfl | go_num, HB5.out⟩
                case measure => simp [intOf]; omega
      by_cases h5 : op = 5
      · subst h5
        rcases hpick with hno | ⟨i, p, rfl, hi⟩
        · have hC := cpause_no nd true (wr.alloc (.cells #[.int .i64 5, .int .i64 nd, .int .i64 id, .int .u64 (a : Int)] 45)) HB0.out.K hno
          have hR := rpause_no nd true HB0.out.R (by rw [HB.out.T.len]; exact hno)
          have HC := Lib.hid hC
          have HR := Lib.hid hR
          clear hC hR hno
          go_wp2_with fail
          refine HC.out.mono ?_
          rintro e _ ⟨rfl, rfl⟩
          go_wp2_with fail
          refine HR.out.mono ?_
          rintro e _ ⟨rfl, rfl⟩
          clear HC HR
          have hBT := HB0.out.more
          generalize wr.alloc (.cells #[.int .i64 5, .int .i64 nd, .int .i64 id, .int .u64 (a : Int)] 45) = w4 at hBT ⊢
          have HBT := Lib.hid hBT
          clear hBT HB HB0 HBO hob hlk HQB c0 c1 c2 c3 hne
          obtain ⟨D, hD⟩ := HBT.out.drift
          have hC := cdrift_eq D w4 HBT.out.K (by rw [HBT.out.nn]; omega) (by rw [HBT.out.nn]; omega) hD
          have hR := fun q => rdrift_any (HBT.out.R.drewN q) (D := D) (by rw [HBT.out.T.now]; exact hD)
          have HC := Lib.hid hC
          have HRD := Lib.hid hR
          clear hC hR hD
          go_wp2_with fail
          refine HC.out.mono ?_
          rintro e _ ⟨rfl, q1, rfl⟩
          go_wp2_with fail
          refine (HRD.out _).mono ?_
          rintro e _ ⟨rfl, q2, rfl⟩
          have hB5 := (HBT.out.drewN q1).drewN q2
          generalize (w4.drewN q1).drewN q2 = w5 at hB5 ⊢
          have HB5 := Lib.hid hB5
          clear hB5 HBT HC HRD
          go_wp2
          go_loopw [17] (fun kv wi => ∃ j : Nat, j ≤ n ∧ kv = .int .i64 j ∧ wi = w5) (fun kv _ => n - (intOf kv).toNat)
          case atStart => exact ⟨0, Nat.zero_le _, rfl, rfl⟩
          case round =>
            obtain ⟨j, hj, rfl, rfl⟩ := hrel
            by_cases hjl : j < n
            · obtain ⟨pj, hpj⟩ := List.getElem?_eq_some_iff.1 (List.getElem?_eq_getElem (show j < _ from (HB5.out.nn).symm ▸ hjl)) |> fun h => (⟨_, List.getElem?_eq_getElem h.1⟩ : ∃ p, _ = some p)
              have hC := cnow_ok j _ HB5.out.K hpj
              obtain ⟨b, cc, y, hvn, hy, hcell, -, -, -⟩ := HB5.out.R.now (i := j) (by rw [HB5.out.T.len, HB5.out.nn]; exact hjl)
              rw [HB5.out.T.nowAt hpj] at hy
              injection hy with hy
              subst hy
              injection hvn with e1 e2 e3
              injection e1 with e1
              injection e1 with e1
              subst e1
              obtain ⟨x0, x1, x2⟩ := HB5.out.R.blk.c3
              generalize pj.now = y at hC hcell
              have HC := Lib.hid hC
              clear hC hpj e2 e3
              go_wp2_with fail
              refine HC.out.mono ?_
              rintro e _ ⟨rfl, rfl⟩
              go_wp2
              go_roundw
              case rel => exact ⟨j + 1, by omega, by first | rfl | go_num, by first | trivial | rfl⟩
              case measure => simp [intOf]; omega
            · obtain rfl : j = n := by omega
              go_wp2
              go_roundw
              case rel => exact ⟨k + 1, _, _, _, _, _, _, by omega, by first | rfl | go_num, HB5.out⟩
              case measure => simp [intOf]; omega
        · have HI := Lib.hid hi
          have hiN : Hid (i < N.length) := by show _ < _; rw [HB.out.T.len]; exact (List.getElem?_eq_some_iff.1 hi).1
          clear hi
          have hC := cpause_ok i true (wr.alloc (.cells #[.int .i64 5, .int .i64 (i : Int), .int .i64 id, .int .u64 (a : Int)] 45)) HB0.out.K HI.out
          have HC := Lib.hid hC
          clear hC
          go_wp2_with fail
          refine HC.out.mono ?_
          rintro e w3 ⟨rfl, O3, K3, s3, d3⟩
          clear HC
          obtain ⟨R3, hd3, hb3⟩ := HB0.out.left s3 d3
          have HR3 := Lib.hid R3
          have HD3 := Lib.hid hd3
          have HB3 := Lib.hid hb3
          have HK3 := Lib.hid K3
          have hbo3 := HBO.out.chg d3 hob.out
          obtain ⟨t0, t1, t2, t3⟩ : w3.cell? ⟨wr.heap.size, 0, none⟩ = some _ ∧ w3.cell? ⟨wr.heap.size, 1, none⟩ = some _ ∧ w3.cell? ⟨wr.heap.size, 2, none⟩ = some _ ∧ w3.cell? ⟨wr.heap.size, 3, none⟩ = some _ := ⟨hbo3.cell 0, hbo3.cell 1, hbo3.cell 2, hbo3.cell 3⟩
          simp at t0 t1 t2 t3
          clear R3 hd3 hb3 K3 s3 d3 hbo3
          have hR := rpause_ok i true HR3.out hiN.out
          have HR := Lib.hid hR
          clear hR
          go_wp2_with fail
          refine HR.out.mono ?_
          rintro e w4 ⟨rfl, R4, d4⟩
          have hBT0 := both_right (n := n) (k := k + 1) HB0.out.low HK3.out HD3.out HB3.out R4 d4 (fun b hb => .inl hb) (HB.out.T.pause HI.out true) (by rw [List.length_set]; exact HB.out.nn) (Nat.le_succ_of_le HB.out.len)
          clear R4 d4 HR HR3 HD3 HB3 HK3 t0 t1 t2 t3
          have hBT := hBT0
          have HBT := Lib.hid hBT
          clear hBT HB HB0 HBO hob hlk HQB c0 c1 c2 c3 hne
          obtain ⟨D, hD⟩ := HBT.out.drift
          have hC := cdrift_eq D w4 HBT.out.K (by rw [HBT.out.nn]; omega) (by rw [HBT.out.nn]; omega) hD
          have hR := fun q => rdrift_any (HBT.out.R.drewN q) (D := D) (by rw [HBT.out.T.now]; exact hD)
          have HC := Lib.hid hC
          have HRD := Lib.hid hR
          clear hC hR hD
          go_wp2_with fail
          refine HC.out.mono ?_
          rintro e _ ⟨rfl, q1, rfl⟩
          go_wp2_with fail
          refine (HRD.out _).mono ?_
          rintro e _ ⟨rfl, q2, rfl⟩
          have hB5 := (HBT.out.drewN q1).drewN q2
          generalize (w4.drewN q1).drewN q2 = w5 at hB5 ⊢
          have HB5 := Lib.hid hB5
          clear hB5 HBT HC HRD
          go_wp2
          go_loopw [17] (fun kv wi => ∃ j : Nat, j ≤ n ∧ kv = .int .i64 j ∧ wi = w5) (fun kv _ => n - (intOf kv).toNat)
          case atStart => exact ⟨0, Nat.zero_le _, rfl, rfl⟩
          case round =>
            obtain ⟨j, hj, rfl, rfl⟩ := hrel
            by_cases hjl : j < n
            · obtain ⟨pj, hpj⟩ := List.getElem?_eq_some_iff.1 (List.getElem?_eq_getElem (show j < _ from (HB5.out.nn).symm ▸ hjl)) |> fun h => (⟨_, List.getElem?_eq_getElem h.1⟩ : ∃ p, _ = some p)
              have hC := cnow_ok j _ HB5.out.K hpj
              obtain ⟨b, cc, y, hvn, hy, hcell, -, -, -⟩ := HB5.out.R.now (i := j) (by rw [HB5.out.T.len, HB5.out.nn]; exact hjl)
              rw [HB5.out.T.nowAt hpj] at hy
              injection hy with hy
              subst hy
              injection hvn with e1 e2 e3
              injection e1 with e1
              injection e1 with e1
              subst e1
              obtain ⟨x0, x1, x2⟩ := HB5.out.R.blk.c3
              generalize pj.now = y at hC hcell
              have HC := Lib.hid hC
              clear hC hpj e2 e3
              go_wp2_with fail
              refine HC.out.mono ?_
              rintro e _ ⟨rfl, rfl⟩
              go_wp2
              go_roundw
              case rel => exact ⟨j + 1, by omega, by first | rfl | go_num, by first | trivial | rfl⟩
              case measure => simp [intOf]; omega
            · obtain rfl : j = n := by omega
              go_wp2
              go_roundw
              case rel => exact ⟨k + 1, _, _, _, _, _, _, by omega, by first | rfl | go_num, HB5.out⟩
              case measure => simp [intOf]; omega
      by_cases h6 : op = 6
      · subst h6
        rcases hpick with hno | ⟨i, p, rfl, hi⟩
        · have hC := cpause_no nd false (wr.alloc (.cells #[.int .i64 6, .int .i64 nd, .int .i64 id, .int .u64 (a : Int)] 45)) HB0.out.K hno
          have hR := rpause_no nd false HB0.out.R (by rw [HB.out.T.len]; exact hno)
          have HC := Lib.hid hC
          have HR := Lib.hid hR
          clear hC hR hno
          go_wp2_with fail
          refine HC.out.mono ?_
          rintro e _ ⟨rfl, rfl⟩
          go_wp2_with fail
          refine HR.out.mono ?_
          rintro e _ ⟨rfl, rfl⟩
          clear HC HR
          have hBT := HB0.out.more
          generalize wr.alloc (.cells #[.int .i64 6, .int .i64 nd, .int .i64 id, .int .u64 (a : Int)] 45) = w4 at hBT ⊢
          have HBT := Lib.hid hBT
          clear hBT HB HB0 HBO hob hlk HQB c0 c1 c2 c3 hne
          obtain ⟨D, hD⟩ := HBT.out.drift
          have hC := cdrift_eq D w4 HBT.out.K (by rw [HBT.out.nn]; omega) (by rw [HBT.out.nn]; omega) hD
          have hR := fun q => rdrift_any (HBT.out.R.drewN q) (D := D) (by rw [HBT.out.T.now]; exact hD)
          have HC := Lib.hid hC
          have HRD := Lib.hid hR
          clear hC hR hD
          go_wp2_with fail
          refine HC.out.mono ?_
          rintro e _ ⟨rfl, q1, rfl⟩
          go_wp2_with fail
          refine (HRD.out _).mono ?_
          rintro e _ ⟨rfl, q2, rfl⟩
          have hB5 := (HBT.out.drewN q1).drewN q2
          generalize (w4.drewN q1).drewN q2 = w5 at hB5 ⊢
          have HB5 := Lib.hid hB5
          clear hB5 HBT HC HRD
          go_wp2
          go_loopw [17] (fun kv wi => ∃ j : Nat, j ≤ n ∧ kv = .int .i64 j ∧ wi = w5) (fun kv _ => n - (intOf kv).toNat)
          case atStart => exact ⟨0, Nat.zero_le _, rfl, rfl⟩
          case round =>
            obtain ⟨j, hj, rfl, rfl⟩ := hrel
            by_cases hjl : j < n
            · obtain ⟨pj, hpj⟩ := List.getElem?_eq_some_iff.1 (List.getElem?_eq_getElem (show j < _ from (HB5.out.nn).symm ▸ hjl)) |> fun h => (⟨_, List.getElem?_eq_getElem h.1⟩ : ∃ p, _ = some p)
              have hC := cnow_ok j _ HB5.out.K hpj
              obtain ⟨b, cc, y, hvn, hy, hcell, -, -, -⟩ := HB5.out.R.now (i := j) (by rw [HB5.out.T.len, HB5.out.nn]; exact hjl)
              rw [HB5.out.T.nowAt hpj] at hy
              injection hy with hy
              subst hy
              injection hvn with e1 e2 e3
              injection e1 with e1
              injection e1 with e1
              subst e1
              obtain ⟨x0, x1, x2⟩ := HB5.out.R.blk.c3
              generalize pj.now = y at hC hcell
              have HC := Lib.hid hC
              clear hC hpj e2 e3
              go_wp2_with fail
              refine HC.out.mono ?_
              rintro e _ ⟨rfl, rfl⟩
              go_wp2
              go_roundw
              case rel => exact ⟨j + 1, by omega, by first | rfl | go_num, by first | trivial | rfl⟩
              case measure => simp [intOf]; omega
            · obtain rfl : j = n := by omega
              go_wp2
              go_roundw
              case rel => exact ⟨k + 1, _, _, _, _, _, _, by omega, by first | rfl | go_num, HB5.out⟩
              case measure => simp [intOf]; omega
        · have HI := Lib.hid hi
          have hiN : Hid (i < N.length) := by show _ < _; rw [HB.out.T.len]; exact (List.getElem?_eq_some_iff.1 hi).1
          clear hi
          have hC := cpause_ok i false (wr.alloc (.cells #[.int .i64 6, .int .i64 (i : Int), .int .i64 id, .int .u64 (a : Int)] 45)) HB0.out.K HI.out
          have HC := Lib.hid hC
          clear hC
          go_wp2_with fail
          refine HC.out.mono ?_
          rintro e w3 ⟨rfl, O3, K3, s3, d3⟩
          clear HC
          obtain ⟨R3, hd3, hb3⟩ := HB0.out.left s3 d3
          have HR3 := Lib.hid R3
          have HD3 := Lib.hid hd3
          have HB3 := Lib.hid hb3
          have HK3 := Lib.hid K3
          have hbo3 := HBO.out.chg d3 hob.out
          obtain ⟨t0, t1, t2, t3⟩ : w3.cell? ⟨wr.heap.size, 0, none⟩ = some _ ∧ w3.cell? ⟨wr.heap.size, 1, none⟩ = some _ ∧ w3.cell? ⟨wr.heap.size, 2, none⟩ = some _ ∧ w3.cell? ⟨wr.heap.size, 3, none⟩ = some _ := ⟨hbo3.cell 0, hbo3.cell 1, hbo3.cell 2, hbo3.cell 3⟩
          simp at t0 t1 t2 t3
          clear R3 hd3 hb3 K3 s3 d3 hbo3
          have hR := rpause_ok i false HR3.out hiN.out
          have HR := Lib.hid hR
          clear hR
          go_wp2_with fail
          refine HR.out.mono ?_
          rintro e w4 ⟨rfl, R4, d4⟩
          have hBT0 := both_right (n := n) (k := k + 1) HB0.out.low HK3.out HD3.out HB3.out R4 d4 (fun b hb => .inl hb) (HB.out.T.pause HI.out false) (by rw [List.length_set]; exact HB.out.nn) (Nat.le_succ_of_le HB.out.len)
          clear R4 d4 HR HR3 HD3 HB3 HK3 t0 t1 t2 t3
          have hBT := hBT0
          have HBT := Lib.hid hBT
          clear hBT HB HB0 HBO hob hlk HQB c0 c1 c2 c3 hne
          obtain ⟨D, hD⟩ := HBT.out.drift
          have hC := cdrift_eq D w4 HBT.out.K (by rw [HBT.out.nn]; omega) (by rw [HBT.out.nn]; omega) hD
          have hR := fun q => rdrift_any (HBT.out.R.drewN q) (D := D) (by rw [HBT.out.T.now]; exact hD)
          have HC := Lib.hid hC
          have HRD := Lib.hid hR
          clear hC hR hD
          go_wp2_with fail
          refine HC.out.mono ?_
          rintro e _ ⟨rfl, q1, rfl⟩
          go_wp2_with fail
          refine (HRD.out _).mono ?_
          rintro e _ ⟨rfl, q2, rfl⟩
          have hB5 := (HBT.out.drewN q1).drewN q2
          generalize (w4.drewN q1).drewN q2 = w5 at hB5 ⊢
          have HB5 := Lib.hid hB5
          clear hB5 HBT HC HRD
          go_wp2
          go_loopw [17] (fun kv wi => ∃ j : Nat, j ≤ n ∧ kv = .int .i64 j ∧ wi = w5) (fun kv _ => n - (intOf kv).toNat)
          case atStart => exact ⟨0, Nat.zero_le _, rfl, rfl⟩
          case round =>
            obtain ⟨j, hj, rfl, rfl⟩ := hrel
            by_cases hjl : j < n
            · obtain ⟨pj, hpj⟩ := List.getElem?_eq_some_iff.1 (List.getElem?_eq_getElem (show j < _ from (HB5.out.nn).symm ▸ hjl)) |> fun h => (⟨_, List.getElem?_eq_getElem h.1⟩ : ∃ p, _ = some p)
              have hC := cnow_ok j _ HB5.out.K hpj
              obtain ⟨b, cc, y, hvn, hy, hcell, -, -, -⟩ := HB5.out.R.now (i := j) (by rw [HB5.out.T.len, HB5.out.nn]; exact hjl)
              rw [HB5.out.T.nowAt hpj] at hy
              injection hy with hy
              subst hy
              injection hvn with e1 e2 e3
              injection e1 with e1
              injection e1 with e1
              subst e1
              obtain ⟨x0, x1, x2⟩ := HB5.out.R.blk.c3
              generalize pj.now = y at hC hcell
              have HC := Lib.hid hC
              clear hC hpj e2 e3
              go_wp2_with fail
              refine HC.out.mono ?_
              rintro e _ ⟨rfl, rfl⟩
              go_wp2
              go_roundw
              case rel => exact ⟨j + 1, by omega, by first | rfl | go_num, by first | trivial | rfl⟩
              case measure => simp [intOf]; omega
            · obtain rfl : j = n := by omega
              go_wp2
              go_roundw
              case rel => exact ⟨k + 1, _, _, _, _, _, _, by omega, by first | rfl | go_num, HB5.out⟩
              case measure => simp [intOf]; omega
      have e1 : (op == 1) = false := beq_eq_false_iff_ne.2 h1
      have e2 : (op == 2) = false := beq_eq_false_iff_ne.2 h2
      have e3 : (op == 3) = false := beq_eq_false_iff_ne.2 h3
      have e4 : (op == 4) = false := beq_eq_false_iff_ne.2 h4
      have e5 : (op == 5) = false := beq_eq_false_iff_ne.2 h5
      have e6 : (op == 6) = false := beq_eq_false_iff_ne.2 h6
      clear hpick
      have hBT := HB0.out.more
      have hC0 : ∀ D, driftN (List.map PN.now ns) = D → _ := fun D hD => cdrift_eq D (wr.alloc (.cells #[.int .i64 op, .int .i64 nd, .int .i64 id, .int .u64 (a : Int)] 45)) hBT.K (by rw [hBT.nn]; omega) (by rw [hBT.nn]; omega) hD
      have HC0 := Lib.hid hC0
      clear hBT hC0
      go_wp2_with fail
      refine (HC0.out _ rfl).mono ?_
      rintro e _ ⟨rfl, q1, rfl⟩
      have hB1 := (HB0.out.drewN q1).more
      generalize (wr.alloc (.cells #[.int .i64 op, .int .i64 nd, .int .i64 id, .int .u64 (a : Int)] 45)).drewN q1 = w4 at hB1 ⊢
      have HBT := Lib.hid hB1
      clear hB1 HB HB0 HBO hob hlk HQB c0 c1 c2 c3 hne HC0
      have hR := rdrift_any HBT.out.R (D := driftN (List.map PN.now ns)) (by rw [HBT.out.T.now])
      have HRD := Lib.hid hR
      clear hR
      generalize driftN (List.map PN.now ns) = D at HRD ⊢
      go_wp2_with fail
      refine HRD.out.mono ?_
      rintro e _ ⟨rfl, q2, rfl⟩
      have hB5 := HBT.out.drewN q2
      generalize w4.drewN q2 = w5 at hB5 ⊢
      have HB5 := Lib.hid hB5
      clear hB5 HBT HRD
      go_wp2
      go_loopw [17] (fun kv wi => ∃ j : Nat, j ≤ n ∧ kv = .int .i64 j ∧ wi = w5) (fun kv _ => n - (intOf kv).toNat)
      case atStart => exact ⟨0, Nat.zero_le _, rfl, rfl⟩
      case round =>
        obtain ⟨j, hj, rfl, rfl⟩ := hrel
        by_cases hjl : j < n
        · obtain ⟨pj, hpj⟩ := List.getElem?_eq_some_iff.1 (List.getElem?_eq_getElem (show j < _ from (HB5.out.nn).symm ▸ hjl)) |> fun h => (⟨_, List.getElem?_eq_getElem h.1⟩ : ∃ p, _ = some p)
          have hC := cnow_ok j _ HB5.out.K hpj
          obtain ⟨b, cc, y, hvn, hy, hcell, -, -, -⟩ := HB5.out.R.now (i := j) (by rw [HB5.out.T.len, HB5.out.nn]; exact hjl)
          rw [HB5.out.T.nowAt hpj] at hy
          injection hy with hy
          subst hy
          injection hvn with e1 e2 e3
          injection e1 with e1
          injection e1 with e1
          subst e1
          obtain ⟨x0, x1, x2⟩ := HB5.out.R.blk.c3
          generalize pj.now = y at hC hcell
          have HC := Lib.hid hC
          clear hC hpj e2 e3
          go_wp2_with fail
          refine HC.out.mono ?_
          rintro e _ ⟨rfl, rfl⟩
          go_wp2
          go_roundw
          case rel => exact ⟨j + 1, by omega, by first | rfl | go_num, by first | trivial | rfl⟩
          case measure => simp [intOf]; omega
        · obtain rfl : j = n := by omega
          go_wp2
          go_roundw
          case rel => exact ⟨k + 1, _, _, _, _, _, _, by omega, by first | rfl | go_num, HB5.out⟩
          case measure => simp [intOf]; omega
    · obtain rfl : k = M := by omega
      have hC := cnow_no (-1) wr HB.out.K (by omega)
      have hC2 := cnow_no (n : Int) wr HB.out.K (by rw [HB.out.nn]; omega)
      have HC := Lib.hid hC
      have HC2 := Lib.hid hC2
      clear hC hC2
      go_wp2_with fail
      refine HC.out.mono ?_
      rintro e _ ⟨rfl, rfl⟩
      go_wp2_with fail
      refine HC2.out.mono ?_
      rintro e _ ⟨rfl, rfl⟩
      go_wp2
      go_ret
      exact ⟨by first | rfl | simp, HB.out.bel⟩
end Go.Proofs.Ytcocakbopbehjaa
