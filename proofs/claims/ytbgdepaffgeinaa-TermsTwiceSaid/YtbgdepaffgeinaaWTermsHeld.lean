import Derived.Test.YtbgdepaffgeinaaWTermsAppends
namespace Go.Proofs.Ytbgdepaffgeinaa
open Go.RowKit

set_option maxRecDepth 100000 in
set_option maxHeartbeats 4000000 in
theorem termsHeld_any (w : World) {v : Value} {l : Nat × Nat × List Ent} (hL : IsLog w v l) {prev pt : Nat} (hp : prev < 18446744073709551616) (_h2 : pt < 18446744073709551616) {vx : Value} {xs : List Ent} (hX : Ents w vx xs) :
    Calls Try.prog 5 #[v, .int .u64 (prev : Int), .int .u64 (pt : Int), vx] w fun e w' => e = .returned (.bool true) ∧ Below w.heap.size w w' := by
  obtain ⟨base, bt, es⟩ := l
  obtain ⟨u, rfl, ⟨A, c, lo, hi', rfl, S0, -, -⟩, -, -⟩ := hL
  obtain ⟨Bx, d, lo2, hi2, rfl, X0, -, -⟩ := hX
  simp only at S0 ⊢
  obtain ⟨n, hn⟩ : ∃ n, es.length = n := ⟨_, rfl⟩
  obtain ⟨m, hm⟩ : ∃ m, xs.length = m := ⟨_, rfl⟩
  have hcap := S0.cap
  have hmax := S0.max
  have hcapx := X0.cap
  have hmaxx := X0.max
  rw [hn] at S0 hcap ⊢
  rw [hm] at X0 hcapx ⊢
  have HN := Lib.hid hn
  have HM := Lib.hid hm
  clear hn hm
  by_cases hsh : base < 1152921504606846976 ∧ n ≤ 30
  · obtain ⟨hb, hn30⟩ := hsh
    have hn1 : n ≤ 1000 := by omega
    by_cases hm30 : m ≤ 30
    · have hm1 : m ≤ 1000 := by omega
      obtain ⟨E, f, cd, hF⟩ : ∃ E f cd, appendF base bt es prev pt xs = (E, f, cd) := ⟨_, _, _, rfl⟩
      obtain ⟨n2, hn2⟩ : ∃ n2, E.length = n2 := ⟨_, rfl⟩
      have hlen := (appendF_mem hF).2
      rw [hn2, HN.out, HM.out] at hlen
      have hn21 : n2 ≤ 1000 := by omega
      have hq : decide ((30 : Int) < (m : Int)) = false := decide_eq_false (by omega)
      have HN2 := Lib.hid hn2
      clear hn2
      have hA := @append_eq base bt n c prev pt m d
      by_cases hcd : cd = 0
      · subst hcd
        have L1 := held_len hF
        rw [HM.out, HN2.out] at L1
        obtain ⟨l1, l2⟩ := L1
        have l3 := (appendF_held hF).2.1
        rw [HN.out] at l3
        have HF := Lib.hid hF
        have HX0 := Lib.hid X0
        have HS0 := Lib.hid S0
        clear hF hA
        have hff : ((f : Int) == 0) = true ∨ (((f : Int) == 0) = false ∧ base + n2 = prev + m) := by
          by_cases h : f = 0
          · exact .inl (by simp [h])
          · exact .inr ⟨by simp; omega, l2 h⟩
        clear l2
        go_enter Try.func5, Try.ntmps5
        go_wp2_with fail
        refine (awake9_any _).mono ?_
        rintro e w1 ⟨rfl, hb1⟩
        have S1 := (S0.alloc (by decide) _).after (by decide) hb1
        have X1 := (X0.alloc (by decide) _).after (by decide) hb1
        have D1 := (below_alloc' (Below.refl w.heap.size w) _ (Nat.le_refl _)).trans (hb1.mono (below_alloc' (Below.refl w.heap.size w) _ (Nat.le_refl _)).size)
        have B1 := (Blk.new _ _ _).after hb1
        clear S0 X0 hb1
        obtain ⟨Bx0, Bx1, Bx2⟩ := B1.c3
        go_wp2_with fail
        refine (short_yes hb hn30).mono ?_
        rintro e _ ⟨rfl, rfl⟩
        go_wp2_with fail
        refine (append_eq S1 X1 hb hn1 hm1 hp HF.out).mono ?_
        rintro e w2 ⟨A2, c2, rfl, ⟨lo3, hi3, hs3⟩, hb2⟩
        have D2 := D1.trans (hb2.mono D1.size)
        have S2 := S1.after (by decide) hb2
        have X2 := X1.after (by decide) hb2
        have B2 := B1.after hb2
        clear S1 X1 B1 D1 hb2 Bx0 Bx1 Bx2
        have HN2x := HN2.out
        rw [HN2x] at hs3 ⊢
        clear HN2x
        have B3 := B2.alloc (Obj.cells #[.int .u64 (base : Int), .int .u64 (bt : Int), .slice A2 n2 c2] 25)
        have P3 := Blk.new w2 25 #[.int .u64 (base : Int), .int .u64 (bt : Int), .slice A2 n2 c2]
        have D3 := below_alloc' D2 (Obj.cells #[.int .u64 (base : Int), .int .u64 (bt : Int), .slice A2 n2 c2] 25) (Nat.le_refl _)
        have Z3 := hs3.alloc (by decide) (Obj.cells #[.int .u64 (base : Int), .int .u64 (bt : Int), .slice A2 n2 c2] 25)
        have g3 : w2.heap.size + 1 ≤ (w2.alloc (Obj.cells #[.int .u64 (base : Int), .int .u64 (bt : Int), .slice A2 n2 c2] 25)).heap.size := by simp
        have g0 : w.heap.size < w2.heap.size := B2.lt
        clear S2 X2 B2 D2 hs3
        obtain ⟨x0, x1, x2⟩ := B3.c3
        go_wp2
        go_loopw [15] (fun i wr => ∃ j : Nat, j ≤ m ∧ i = .int .i64 j ∧ Blk wr w.heap.size 25 #[.int .u64 (base : Int), .int .u64 (bt : Int), .slice A n c] ∧ Blk wr w2.heap.size 25 #[.int .u64 (base : Int), .int .u64 (bt : Int), .slice A2 n2 c2] ∧ (∃ lo hi, Sl wr lo hi 3 A2 n2 c2 (ecells E)) ∧ Below w.heap.size w wr) (fun i _ => m - (intOf i).toNat)
        case atStart => exact ⟨0, Nat.zero_le _, rfl, B3, P3, ⟨_, _, Z3⟩, D3⟩
        case round =>
          obtain ⟨j, hj, rfl, Br, Pr, ⟨lz, hz, Zr⟩, Dr⟩ := hrel
          clear B3 P3 Z3 D3 x0 x1 x2 g3
          obtain ⟨x0, x1, x2⟩ := Br.c3
          obtain ⟨y0, y1, y2⟩ := Pr.c3
          by_cases hlt : j < m
          · obtain ⟨x, hx⟩ : ∃ x, xs[j]? = some x := ⟨_, List.getElem?_eq_getElem (by have := HM.out; omega)⟩
            have hT := term_any base bt n2 c2 (prev + 1 + j) _ _ A2 E _ Zr hb hn21 (by omega)
            rw [show ((prev + 1 + j : Nat) : Int) = (prev : Int) + 1 + (j : Int) by omega] at hT
            by_cases hg : base < prev + 1 + j
            · obtain ⟨t1, t2⟩ := held_term HF.out hx hg
              rw [HN2.out] at t1
              rw [t2, decide_eq_true (p := base ≤ prev + 1 + j ∧ prev + 1 + j ≤ base + n2) ⟨by omega, t1⟩] at hT
              have qg : decide ((base : Int) < (prev : Int) + 1 + (j : Int)) = true := decide_eq_true (by omega)
              have HX := Lib.hid hx
              clear hx t2
              go_wp2_with fail
              refine hT.mono ?_
              rintro e w5 ⟨rfl, hb5⟩
              have B5 := Br.after hb5
              have P5 := Pr.after hb5
              have D5 := Dr.trans (hb5.mono Dr.size)
              have Z5 := Zr.after (by decide) hb5
              obtain ⟨ad, x', rfl, hx', c0, c1, c2'⟩ := ((HX0.out.now (by decide)).below D5 (Nat.le_refl _)).ent hlt
              obtain rfl : x = x' := by have := HX.out; rw [this] at hx'; exact Option.some.inj hx'
              clear hx' x0 x1 x2 y0 y1 y2 hb5 hT
              obtain ⟨x0, x1, x2⟩ := B5.c3
              have qn : ((x.t : Int) != (x.t : Int)) = false := by simp
              go_wp2
              go_roundw
              case rel => exact ⟨j + 1, by omega, by go_num, B5, P5, ⟨_, _, Z5⟩, D5⟩
              case measure => simp [intOf]; omega
            · have qg : decide ((base : Int) < (prev : Int) + 1 + (j : Int)) = false := decide_eq_false (by omega)
              generalize decide (base ≤ prev + 1 + j ∧ prev + 1 + j ≤ base + n2) = dd at hT
              clear hx
              go_wp2_with fail
              refine hT.mono ?_
              rintro e w5 ⟨rfl, hb5⟩
              have B5 := Br.after hb5
              have P5 := Pr.after hb5
              have D5 := Dr.trans (hb5.mono Dr.size)
              have Z5 := Zr.after (by decide) hb5
              clear x0 x1 x2 y0 y1 y2 hb5 hT
              obtain ⟨x0, x1, x2⟩ := B5.c3
              go_wp2
              go_roundw
              case rel => exact ⟨j + 1, by omega, by go_num, B5, P5, ⟨_, _, Z5⟩, D5⟩
              case measure => simp [intOf]; omega
          · go_wp2
            go_loopw [18] (fun i wi => ∃ q : Nat, base ≤ q ∧ (q ≤ prev + 1 ∨ q = base) ∧ i = .int .u64 q ∧ Blk wi w.heap.size 25 #[.int .u64 (base : Int), .int .u64 (bt : Int), .slice A n c] ∧ Blk wi w2.heap.size 25 #[.int .u64 (base : Int), .int .u64 (bt : Int), .slice A2 n2 c2] ∧ (∃ lo hi, Sl wi lo hi 3 A2 n2 c2 (ecells E)) ∧ Below w.heap.size w wi) (fun i _ => base + 100 + n - (intOf i).toNat)
            case atStart => exact ⟨base, Nat.le_refl _, .inr rfl, rfl, Br, Pr, ⟨_, _, Zr⟩, Dr⟩
            case round =>
              obtain ⟨q, hq1, hq2, rfl, Bi, Pi, ⟨lz2, hz2, Zi⟩, Di⟩ := hrel
              clear Br Pr Zr Dr x0 x1 x2 y0 y1 y2
              obtain ⟨x0, x1, x2⟩ := Bi.c3
              obtain ⟨y0, y1, y2⟩ := Pi.c3
              by_cases hc : q ≤ prev ∧ q ≤ base + 30
              · obtain ⟨hc1, hc2⟩ := hc
                obtain ⟨o1, o2, o3⟩ := held_old HF.out hc1 hq1
                rw [HN.out] at o2
                rw [HN2.out] at o3
                have hT1 := term_any base bt n c q _ _ A es _ ((HS0.out.now (by decide)).below Di (Nat.le_refl _)) hb hn1 (by omega)
                have hT2 := fun w' (h : Below wr.heap.size wr w') => term_any base bt n2 c2 q _ _ A2 E w' (Zi.after (by decide) h) hb hn21 (by omega)
                rw [decide_eq_true (p := base ≤ q ∧ q ≤ base + n) ⟨hq1, o2⟩] at hT1
                rw [decide_eq_true (p := base ≤ q ∧ q ≤ base + n2) ⟨hq1, o3⟩, o1] at hT2
                generalize termAt base bt es q = T at hT1 hT2
                have qa : decide (q ≤ prev) = true := decide_eq_true hc1
                have qb : ((T : Int) != (T : Int)) = false := by simp
                have HT2 := Lib.hid hT2
                clear o1 hT2
                go_wp2_with fail
                refine hT1.mono ?_
                rintro e w5 ⟨rfl, hb5⟩
                have B5 := Bi.after hb5
                have P5 := Pi.after hb5
                have D5 := Di.trans (hb5.mono Di.size)
                have hT2 := HT2.out _ hb5
                have Z5 := Zi.after (by decide) hb5
                clear x0 x1 x2 y0 y1 y2 hb5 hT1
                obtain ⟨x0, x1, x2⟩ := P5.c3
                go_wp2_with fail
                refine hT2.mono ?_
                rintro e w6 ⟨rfl, hb6⟩
                clear hT2
                go_wp2
                go_roundw
                case rel => exact ⟨q + 1, by omega, .inl (by omega), by go_num, B5.after hb6, P5.after hb6, ⟨_, _, Z5.after (by decide) hb6⟩, D5.trans (hb6.mono D5.size)⟩
                case measure => simp [intOf]; omega
              · have qa : (decide (q ≤ prev) = true ∧ decide ((q : Int) ≤ (base : Int) + 30) = false) ∨ decide (q ≤ prev) = false := by
                  by_cases h : q ≤ prev
                  · exact .inl ⟨decide_eq_true h, decide_eq_false (by omega)⟩
                  · exact .inr (decide_eq_false h)
                rcases qa with ⟨qa, qb⟩ | qa
                all_goals
                  go_wp2_with fail
                  refine (last_any base n2 c2 bt A2 _ hb hn21).mono ?_
                  rintro e w5 ⟨rfl, hb5⟩
                  have B5 := Bi.after hb5
                  have P5 := Pi.after hb5
                  have D5 := Di.trans (hb5.mono Di.size)
                  clear x0 x1 x2 y0 y1 y2 hb5
                  obtain ⟨x0, x1, x2⟩ := P5.c3
                  obtain ⟨y0, y1, y2⟩ := B5.c3
                  rcases hff with hff | ⟨hff, hff2⟩
                  all_goals
                    go_wp2
                    go_ret
                    exact ⟨by first | rfl | simp <;> omega, D5⟩
      · obtain ⟨hE, hf0⟩ := appendF_bad hF hcd
        subst hE hf0
        obtain rfl : n2 = n := by rw [← HN2.out, HN.out]
        have hne : ((cd : Int) != 0) = true := by simp; omega
        have HF := Lib.hid hF
        clear hF hA hcd
        go_enter Try.func5, Try.ntmps5
        go_wp2_with fail
        refine (awake9_any _).mono ?_
        rintro e w1 ⟨rfl, hb1⟩
        have S1 := (S0.alloc (by decide) _).after (by decide) hb1
        have X1 := (X0.alloc (by decide) _).after (by decide) hb1
        have D1 := (below_alloc' (Below.refl w.heap.size w) _ (Nat.le_refl _)).trans (hb1.mono (below_alloc' (Below.refl w.heap.size w) _ (Nat.le_refl _)).size)
        have B1 := (Blk.new _ _ _).after hb1
        clear S0 X0 hb1
        obtain ⟨Bx0, Bx1, Bx2⟩ := B1.c3
        go_wp2_with fail
        refine (short_yes hb hn30).mono ?_
        rintro e _ ⟨rfl, rfl⟩
        go_wp2_with fail
        refine (append_eq S1 X1 hb hn1 hm1 hp HF.out).mono ?_
        rintro e w2 ⟨A2, c2, rfl, ⟨lo3, hi3, hs3⟩, hb2⟩
        have D2 := D1.trans (hb2.mono D1.size)
        have S2 := S1.after (by decide) hb2
        have X2 := X1.after (by decide) hb2
        have B2 := B1.after hb2
        clear S1 X1 B1 D1 hb2 Bx0 Bx1 Bx2
        have HN2x := HN2.out
        rw [HN2x] at hs3 ⊢
        clear HN2x hs3
        obtain ⟨Bx0, Bx1, Bx2⟩ := (B2.alloc (Obj.cells #[.int .u64 (base : Int), .int .u64 (bt : Int), .slice A2 n2 c2] 25)).c3
        go_wp2_with fail
        refine (last_any base n2 c2 bt A2 _ hb hn21).mono ?_
        rintro e w3 ⟨rfl, hb3⟩
        have D3 := (below_alloc' D2 _ (Nat.le_refl _)).trans (hb3.mono (below_alloc' D2 _ (Nat.le_refl _)).size)
        have S3 := (S2.alloc (by decide) _).after (by decide) hb3
        have X3 := (X2.alloc (by decide) _).after (by decide) hb3
        have B3 := (B2.alloc _).after hb3
        clear S2 X2 B2 D2 hb3 Bx0 Bx1 Bx2
        obtain ⟨Bx0, Bx1, Bx2⟩ := B3.c3
        go_wp2
        go_ret
        exact ⟨rfl, D3⟩
    · have hq : decide ((30 : Int) < (m : Int)) = true := decide_eq_true (by omega)
      go_enter Try.func5, Try.ntmps5
      go_wp2_with fail
      refine (awake9_any _).mono ?_
      rintro e w1 ⟨rfl, hb1⟩
      have B1 := (Blk.new w _ _).after hb1
      obtain ⟨x0, x1, x2⟩ := B1.c3
      go_wp2_with fail
      refine (short_yes hb hn30).mono ?_
      rintro e _ ⟨rfl, rfl⟩
      go_wp2
      go_ret
      exact ⟨rfl, below_boxed hb1⟩
  · go_enter Try.func5, Try.ntmps5
    go_wp2_with fail
    refine (awake9_any _).mono ?_
    rintro e w1 ⟨rfl, hb1⟩
    have B1 := (Blk.new w _ _).after hb1
    obtain ⟨x0, x1, x2⟩ := B1.c3
    go_wp2_with fail
    refine (short_no hsh).mono ?_
    rintro e _ ⟨rfl, rfl⟩
    go_wp2
    go_ret
    exact ⟨rfl, below_boxed hb1⟩
end Go.Proofs.Ytbgdepaffgeinaa
