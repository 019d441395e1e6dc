import Derived.Test.YtbgdepaffgeinaaWTermsHeld
import Derived.Test.YtbgdepaffgeinaaWAppend2
namespace Go.Proofs.Ytbgdepaffgeinaa
open Go.RowKit

set_option maxRecDepth 100000 in
set_option maxHeartbeats 4000000 in
theorem termsTwice_any (w : World) {v : Value} {l : Nat × Nat × List Ent} (hL : IsLog w v l) {prev pt : Nat} (hp : prev < 18446744073709551616) (_h2 : pt < 18446744073709551616) {vx : Value} {xs : List Ent} (hX : Ents w vx xs) {again : Int} (_h3 : -9223372036854775808 ≤ again ∧ again ≤ 9223372036854775807) :
    Calls Try.prog 6 #[v, .int .u64 (prev : Int), .int .u64 (pt : Int), vx, .int .i64 again] w fun e w' => e = .returned (.bool true) ∧ Below w.heap.size w w' := by
  obtain ⟨base, bt, es⟩ := l
  obtain ⟨u, rfl, ⟨A, c, lo, hi', rfl, S0, E0, -⟩, -, -⟩ := hL
  obtain ⟨Bx, d, lo2, hi2, rfl, X0, F0, -⟩ := hX
  simp only at S0 E0 ⊢
  obtain ⟨n, hn⟩ : ∃ n, es.length = n := ⟨_, rfl⟩
  obtain ⟨m, hm⟩ : ∃ m, xs.length = m := ⟨_, rfl⟩
  have hcap := S0.cap
  have hmax := S0.max
  have hcapx := X0.cap
  have hmaxx := X0.max
  rw [hn] at S0 hcap ⊢
  rw [hm] at X0 hcapx ⊢
  have HN := Lib.hid hn
  have HM := Lib.hid hm
  clear hn hm
  by_cases hsh : base < 1152921504606846976 ∧ n ≤ 30
  · obtain ⟨hb, hn30⟩ := hsh
    have hn1 : n ≤ 1000 := by omega
    by_cases hm30 : m ≤ 30
    · have hm1 : m ≤ 1000 := by omega
      have hq : decide ((30 : Int) < (m : Int)) = false := decide_eq_false (by omega)
      by_cases hag : 0 ≤ again ∧ again ≤ m
      · obtain ⟨ag, rfl⟩ : ∃ ag : Nat, again = (ag : Int) := ⟨again.toNat, by omega⟩
        have hag2 : ag ≤ m := by omega
        have hq2 : decide ((ag : Int) < 0) = false := decide_eq_false (by omega)
        have hq3 : decide ((m : Int) < (ag : Int)) = false := decide_eq_false (by omega)
        clear hag _h3
        obtain ⟨E, f, cd, hF⟩ : ∃ E f cd, appendF base bt es prev pt xs = (E, f, cd) := ⟨_, _, _, rfl⟩
        obtain ⟨n2, hn2⟩ : ∃ n2, E.length = n2 := ⟨_, rfl⟩
        have hlen := (appendF_mem hF).2
        rw [hn2, HN.out, HM.out] at hlen
        have hn21 : n2 ≤ 1000 := by omega
        have G0 := edata_appendF hF E0 F0
        have HN2 := Lib.hid hn2
        clear hn2 E0 F0
        by_cases hcd : cd = 0
        · subst hcd
          obtain ⟨g0, a1, -, a3⟩ := append_again hF m
          rw [List.take_of_length_le (by have := HM.out; omega)] at a1
          obtain rfl := a3 (by have := HM.out; omega)
          obtain ⟨g, b1, b2, -⟩ := append_again hF ag
          obtain ⟨i0, hi0, hz0, hz1, hz2⟩ := info_parts en_info
          obtain ⟨A1, hA1, hcut⟩ := cut_h 23 35 i0 Try.underlying23 hi0 .i64 Bx m d (ag : Int) ag (by omega) (by omega) (by omega)
          have hgg : (((g : Int) == 0) = true) ∨ (((g : Int) == 0) = false ∧ ((g : Int) == 61) = true) := by
            rcases b2 with rfl | rfl
            · exact .inl rfl
            · exact .inr ⟨rfl, rfl⟩
          have T0 := X0.sub (A' := A1) (k := 0) (m := ag) (c' := d) (by omega) (by omega) hmaxx (by intro h; rw [hA1 h]; cases Bx <;> simp [Addr.add])
          have hE : ((ecells xs).drop (0 * 3)).take (ag * 3) = ecells (xs.take ag) := by rw [ecells_take]; simp
          rw [hE] at T0
          have HF := Lib.hid hF
          have HF1 := Lib.hid a1
          have HF2 := Lib.hid b1
          clear hF a1 a3 b1 b2 hE hA1
          go_enter Try.func6, Try.ntmps6
          go_wp2_with fail
          refine (awake9_any _).mono ?_
          rintro e w1 ⟨rfl, hb1⟩
          have S1 := (S0.alloc (by decide) _).after (by decide) hb1
          have X1 := (X0.alloc (by decide) _).after (by decide) hb1
          have G1 := (G0.alloc _).after hb1
          have T1 := (T0.alloc (by decide) _).after (by decide) hb1
          have D1 := (below_alloc' (Below.refl w.heap.size w) _ (Nat.le_refl _)).trans (hb1.mono (below_alloc' (Below.refl w.heap.size w) _ (Nat.le_refl _)).size)
          have B1 := (Blk.new _ _ _).after hb1
          clear S0 X0 G0 T0 hb1
          obtain ⟨Bx0, Bx1, Bx2⟩ := B1.c3
          go_wp2_with fail
          refine (short_yes hb hn30).mono ?_
          rintro e _ ⟨rfl, rfl⟩
          go_wp2_with fail
          refine (append_eq S1 X1 hb hn1 hm1 hp HF.out).mono ?_
          rintro e w2 ⟨A2, c2, rfl, ⟨lo3, hi3, hs3⟩, hb2⟩
          have D2 := D1.trans (hb2.mono D1.size)
          have S2 := S1.after (by decide) hb2
          have X2 := X1.after (by decide) hb2
          have G2 := G1.after hb2
          have T2 := T1.after (by decide) hb2
          have B2 := B1.after hb2
          clear S1 X1 G1 T1 B1 D1 hb2 Bx0 Bx1 Bx2
          have HN2x := HN2.out
          rw [HN2x] at hs3 ⊢
          clear HN2x
          have Z2 := hs3
          clear hs3
          go_wp2_with fail
          refine (append_eq (Z2.alloc (by decide) _) (X2.alloc (by decide) _) hb hn21 hm1 hp HF1.out).mono ?_
          rintro e w3 ⟨A3, c3, rfl, ⟨lo4, hi4, hs4⟩, hb3⟩
          have D3 := (below_alloc' D2 _ (Nat.le_refl _)).trans (hb3.mono (below_alloc' D2 _ (Nat.le_refl _)).size)
          have S3 := (S2.alloc (by decide) _).after (by decide) hb3
          have X3 := (X2.alloc (by decide) _).after (by decide) hb3
          have G3 := (G2.alloc _).after hb3
          have T3 := (T2.alloc (by decide) _).after (by decide) hb3
          have B3 := (B2.alloc _).after hb3
          have Z3 := (Z2.alloc (by decide) _).after (by decide) hb3
          have P3 := (Blk.new _ _ _).after hb3
          clear S2 X2 G2 T2 B2 Z2 D2 hb3
          have HN2x := HN2.out
          rw [HN2x] at hs4 ⊢
          clear HN2x
          have Y3 := hs4
          clear hs4
          have P9 := P3.alloc (Obj.cells #[.int .u64 (base : Int), .int .u64 (bt : Int), .slice A3 n2 c3] 25)
          have Q9 := Blk.new w3 25 #[.int .u64 (base : Int), .int .u64 (bt : Int), .slice A3 n2 c3]
          have D9 := below_alloc' D3 (Obj.cells #[.int .u64 (base : Int), .int .u64 (bt : Int), .slice A3 n2 c3] 25) (Nat.le_refl _)
          have Z9 := Z3.alloc (by decide) (Obj.cells #[.int .u64 (base : Int), .int .u64 (bt : Int), .slice A3 n2 c3] 25)
          have Y9 := Y3.alloc (by decide) (Obj.cells #[.int .u64 (base : Int), .int .u64 (bt : Int), .slice A3 n2 c3] 25)
          have T9 := T3.alloc (by decide) (Obj.cells #[.int .u64 (base : Int), .int .u64 (bt : Int), .slice A3 n2 c3] 25)
          have G9 := G3.alloc (Obj.cells #[.int .u64 (base : Int), .int .u64 (bt : Int), .slice A3 n2 c3] 25)
          obtain ⟨x0, x1, x2⟩ := P9.c3
          clear S3 X3 G3 T3 B3 Z3 P3 Y3 D3
          go_wp2
          have g9 : w3.heap.size < (w3.alloc (Obj.cells #[.int .u64 (base : Int), .int .u64 (bt : Int), .slice A3 n2 c3] 25)).heap.size := by simp
          clear x0 x1 x2
          generalize w3.alloc (Obj.cells #[.int .u64 (base : Int), .int .u64 (bt : Int), .slice A3 n2 c3] 25) = W9 at P9 Q9 D9 Z9 Y9 T9 G9 g9 ⊢
          obtain ⟨x0, x1, x2⟩ := P9.c3
          obtain ⟨xa0, xa1, xa2⟩ := (P9.alloc (Obj.cells #[.int .u64 0, .int .u64 0, .slice none 0 0] 25)).c3
          have Z9n := Z9.now (by decide)
          go_cut [19, 20, 21] (fun v19 v20 v21 w' => ∃ gb A4 c4, v19 = .pointer (some ⟨gb, 0, none⟩) ∧ v20 = .int .u64 0 ∧ v21 = .int .i64 (g : Nat) ∧ Blk w' gb 25 #[.int .u64 (base : Int), .int .u64 (bt : Int), .slice A4 n2 c4] ∧ (∃ lo hi, Sl w' lo hi 3 A4 n2 c4 (ecells E)) ∧ Below W9.heap.size W9 w')
          case first =>
            go_region_with (go_at_call 28; refine (append_eq2 (by first | exact Z9n.drew | exact (Z9n.alloc (by decide) _).drew) (by first | exact T9.drew | exact (T9.alloc (by decide) _).drew) hb hn21 (by omega) hp HF2.out).mono ?_; rintro e w9 ⟨A4, c4, rfl, ⟨lo5, hi5, ho5, hs5⟩, hb9⟩; have hx2 := HN2.out; rw [hx2] at hs5 ⊢; clear hx2; first | (have Bq := (Blk.new W9 25 #[.int .u64 0, .int .u64 0, .slice none 0 0]).drew.after hb9; obtain ⟨z0, z1, z2⟩ := Bq.c3; have f0 := Bq.frozen 0; have f1 := Bq.frozen 1; have f2 := Bq.frozen 2) | skip)
            · go_wp2
              go_meet
              exact ⟨w9.heap.size, A4, c4, rfl, rfl, rfl, Blk.new _ _ _, ⟨_, _, hs5.alloc (by decide) _⟩, below_alloc' (B := W9.heap.size) (below_of_drew hb9) _ (Nat.le_refl _)⟩
            all_goals
              have hout : W9.heap.size < lo5 ∨ hi5 ≤ W9.heap.size := by
                rcases ho5 with h | h
                · exact .inr h
                · exact .inl (by simp at h; omega)
              have hb9' := below_boxed (below_of_drew hb9)
              go_wp2
              go_meet
              exact ⟨W9.heap.size, A4, c4, rfl, rfl, rfl, ((Bq.set_ 0 (.int .u64 (base : Int))).set_ 1 (.int .u64 (bt : Int))).set_ 2 (.slice A4 n2 c4), ⟨_, _, ((hs5.setCell (p := ⟨W9.heap.size, 0, none⟩) hout _).setCell (p := ⟨W9.heap.size, 1, none⟩) hout _).setCell (p := ⟨W9.heap.size, 2, none⟩) hout _⟩, ((hb9'.setCell (p := ⟨W9.heap.size, 0, none⟩) (Nat.le_refl _) _).setCell (p := ⟨W9.heap.size, 1, none⟩) (Nat.le_refl _) _).setCell (p := ⟨W9.heap.size, 2, none⟩) (Nat.le_refl _) _⟩
          case rest =>
            obtain ⟨gb, A4, c4, rfl, rfl, rfl, R1, ⟨loR, hiR, R2⟩, DW⟩ := hcut
            have P1 := P9.after DW
            have Q1 := Q9.after DW
            have Z1 := Z9.after (by decide) DW
            have Y1 := Y9.after (by decide) DW
            have G1 := G9.after DW
            have D1 := D9.trans (DW.mono D9.size)
            clear P9 Q9 Z9 Y9 G9 D9 DW x0 x1 x2 xa0 xa1 xa2 Z9n T9
            obtain ⟨x0, x1, x2⟩ := P1.c3
            obtain ⟨y0, y1, y2⟩ := Q1.c3
            obtain ⟨z0, z1, z2⟩ := R1.c3
            go_wp2
            go_cut [22] (fun v w' => v = .bool true ∧ Below wc.heap.size wc w')
            case first =>
              go_region_law (first
                | (have _g := hB2; go_simp; go_at_call 30; refine (lawSame_any base bt n2 n2 c3 c2 _ _ _ _ A3 A2 E _ (Y1.after (by decide) hB2) (Z1.after (by decide) hB2) (G1.after hB2)).mono ?_; rintro e w4 ⟨rfl, hb4⟩)
                | (go_simp; go_at_call 14; refine (doc_any base n2 c2 (bt : Int) A2 _).mono ?_; rintro e w3 ⟨rfl, hb3⟩; have hB2 : Below wc.heap.size wc w3 := (by first | exact hb3 | exact below_of_drew hb3); obtain ⟨q0, q1, q2⟩ := (Q1.after hB2).c3; obtain ⟨p0, p1, p2⟩ := (P1.after hB2).c3))
              all_goals
                go_wp2
                go_meet
                exact ⟨rfl, hB2.trans (hb4.mono hB2.size)⟩
            case rest =>
              obtain ⟨rfl, hB⟩ := hcut
              have P2 := P1.after hB
              have T2 := R1.after hB
              have Z2 := Z1.after (by decide) hB
              have U2 := R2.after (by decide) hB
              have G2 := G1.after hB
              have D2 := D1.trans (hB.mono D1.size)
              clear P1 Q1 R1 R2 Z1 Y1 G1 D1 hB x0 x1 x2 y0 y1 y2 z0 z1 z2
              obtain ⟨x0, x1, x2⟩ := P2.c3
              obtain ⟨y0, y1, y2⟩ := T2.c3
              go_wp2
              go_cut [23] (fun v w' => v = .bool true ∧ Below wc.heap.size wc w')
              case first =>
                go_region_law (first
                  | (have _g := hB2; go_simp; go_at_call 30; refine (lawSame_any base bt n2 n2 c4 c2 _ _ _ _ A4 A2 E _ (U2.after (by decide) hB2) (Z2.after (by decide) hB2) (G2.after hB2)).mono ?_; rintro e w4 ⟨rfl, hb4⟩)
                  | (go_simp; go_at_call 14; refine (doc_any base n2 c2 (bt : Int) A2 _).mono ?_; rintro e w3 ⟨rfl, hb3⟩; have hB2 : Below wc.heap.size wc w3 := (by first | exact hb3 | exact below_of_drew hb3); obtain ⟨q0, q1, q2⟩ := (T2.after hB2).c3; obtain ⟨p0, p1, p2⟩ := (P2.after hB2).c3))
                all_goals
                  go_wp2
                  go_meet
                  exact ⟨rfl, hB2.trans (hb4.mono hB2.size)⟩
              case rest =>
                obtain ⟨rfl, hB⟩ := hcut
                have D3 := D2.trans (hB.mono D2.size)
                rcases hgg with hgg | ⟨hgg, hgg2⟩
                all_goals
                  go_wp2
                  go_ret
                  exact ⟨rfl, D3⟩
        · have hne : ((cd : Int) != 0) = true := by simp; omega
          have HF := Lib.hid hF
          clear hF hcd
          go_enter Try.func6, Try.ntmps6
          go_wp2_with fail
          refine (awake9_any _).mono ?_
          rintro e w1 ⟨rfl, hb1⟩
          have S1 := (S0.alloc (by decide) _).after (by decide) hb1
          have X1 := (X0.alloc (by decide) _).after (by decide) hb1
          have D1 := (below_alloc' (Below.refl w.heap.size w) _ (Nat.le_refl _)).trans (hb1.mono (below_alloc' (Below.refl w.heap.size w) _ (Nat.le_refl _)).size)
          have B1 := (Blk.new _ _ _).after hb1
          clear S0 X0 hb1
          obtain ⟨Bx0, Bx1, Bx2⟩ := B1.c3
          go_wp2_with fail
          refine (short_yes hb hn30).mono ?_
          rintro e _ ⟨rfl, rfl⟩
          go_wp2_with fail
          refine (append_eq S1 X1 hb hn1 hm1 hp HF.out).mono ?_
          rintro e w2 ⟨A2, c2, rfl, ⟨lo3, hi3, hs3⟩, hb2⟩
          have D2 := D1.trans (hb2.mono D1.size)
          have S2 := S1.after (by decide) hb2
          have X2 := X1.after (by decide) hb2
          have B2 := B1.after hb2
          clear S1 X1 B1 D1 hb2 Bx0 Bx1 Bx2
          clear hs3
          go_wp2
          go_ret
          exact ⟨rfl, below_alloc' D2 _ (Nat.le_refl _)⟩
      · have hqq : (decide (again < 0) = true) ∨ (decide (again < 0) = false ∧ decide ((m : Int) < again) = true) := by
          by_cases h : again < 0
          · exact .inl (decide_eq_true h)
          · exact .inr ⟨decide_eq_false h, decide_eq_true (by omega)⟩
        clear hag
        rcases hqq with hq2 | ⟨hq2, hq3⟩
        all_goals
          go_enter Try.func6, Try.ntmps6
          go_wp2_with fail
          refine (awake9_any _).mono ?_
          rintro e w1 ⟨rfl, hb1⟩
          have B1 := (Blk.new w _ _).after hb1
          obtain ⟨x0, x1, x2⟩ := B1.c3
          go_wp2_with fail
          refine (short_yes hb hn30).mono ?_
          rintro e _ ⟨rfl, rfl⟩
          go_wp2
          go_ret
          exact ⟨rfl, below_boxed hb1⟩
    · have hq : decide ((30 : Int) < (m : Int)) = true := decide_eq_true (by omega)
      go_enter Try.func6, Try.ntmps6
      go_wp2_with fail
      refine (awake9_any _).mono ?_
      rintro e w1 ⟨rfl, hb1⟩
      have B1 := (Blk.new w _ _).after hb1
      obtain ⟨x0, x1, x2⟩ := B1.c3
      go_wp2_with fail
      refine (short_yes hb hn30).mono ?_
      rintro e _ ⟨rfl, rfl⟩
      go_wp2
      go_ret
      exact ⟨rfl, below_boxed hb1⟩
  · go_enter Try.func6, Try.ntmps6
    go_wp2_with fail
    refine (awake9_any _).mono ?_
    rintro e w1 ⟨rfl, hb1⟩
    have B1 := (Blk.new w _ _).after hb1
    obtain ⟨x0, x1, x2⟩ := B1.c3
    go_wp2_with fail
    refine (short_no hsh).mono ?_
    rintro e _ ⟨rfl, rfl⟩
    go_wp2
    go_ret
    exact ⟨rfl, below_boxed hb1⟩
end Go.Proofs.Ytbgdepaffgeinaa
