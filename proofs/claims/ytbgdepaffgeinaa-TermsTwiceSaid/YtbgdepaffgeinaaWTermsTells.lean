import Derived.Test.YtbgdepaffgeinaaWTermsHints
namespace Go.Proofs.Ytbgdepaffgeinaa
open Go.RowKit

/-- Entries, what lies below -/
theorem entries_b (A B : Option Addr) (n m c d lo hi lo' hi' : Nat) (es fs : List Ent) (w : World) (ha : Sl w lo hi 3 A n c (ecells es)) (hb : Sl w lo' hi' 3 B m d (ecells fs)) (hae : EData w es) (hbe : EData w fs) (hk : es.map Ent.key = fs.map Ent.key) :
    Calls Try.prog 24 #[.slice A n c, .slice B m d] w fun e w' => e = .returned (.bool true) ∧ Below w.heap.size w w' :=
  (entries_any A B n m c d lo hi lo' hi' es fs w ha hb hae hbe hk).mono fun _ _ ⟨h1, q, h2⟩ => ⟨h1, h2 ▸ below_drewN (Below.refl _ _) q⟩
theorem edata_at {w : World} {es : List Ent} (h : EData w es) (b i : Nat) : EData w [entAt b es i] := by
  intro e he
  rw [List.mem_singleton.1 he]
  unfold entAt
  split
  · cases hx : es[i - b - 1]? with
    | none => exact bytes_nil w
    | some x => exact h x (List.mem_of_getElem? hx)
  · exact bytes_nil w
set_option maxRecDepth 100000 in
set_option maxHeartbeats 2000000 in
theorem termsTells_any (w : World) {v : Value} {l : Nat × Nat × List Ent} (hL : IsLog w v l) {i term last : Nat} (hi : i < 18446744073709551616) (_h2 : term < 18446744073709551616) (_h3 : last < 18446744073709551616) :
    Calls Try.prog 3 #[v, .int .u64 (i : Int), .int .u64 (term : Int), .int .u64 (last : Int)] w fun e w' => e = .returned (.bool true) ∧ Below w.heap.size w w' := by
  obtain ⟨base, bt, es⟩ := l
  obtain ⟨u, rfl, ⟨A, c, lo, hi', rfl, S0, E0, -⟩, -, -⟩ := hL
  simp only at S0 E0 ⊢
  obtain ⟨n, hn⟩ : ∃ n, es.length = n := ⟨_, rfl⟩
  have hcap := S0.cap
  have hmax := S0.max
  rw [hn] at S0 hcap ⊢
  clear hn
  by_cases hsh : base < 1152921504606846976 ∧ n ≤ 30
  · obtain ⟨hb, hn30⟩ := hsh
    have hn1 : n ≤ 1000 := by omega
    have hRT := fun lo hi w' (hs : Sl w' lo hi 3 A n c (ecells es)) => rterm_any base bt n c i lo hi A es w' hs hb hn1
    have hRE := fun lo hi w' (hs : Sl w' lo hi 3 A n c (ecells es)) => rentry_any base bt n c i lo hi A es w' hs hb hn1
    have hRH := fun lo hi w' (hs : Sl w' lo hi 3 A n c (ecells es)) => rhint_any base bt n c i lo hi A es w' hs hb hn1
    have hRN := fun lo hi w' (hs : Sl w' lo hi 3 A n c (ecells es)) => rnewer_any base bt n c term last lo hi A es w' hs hb hn1
    have hRL := fun lo hi w' (hs : Sl w' lo hi 3 A n c (ecells es)) => rlastTerm_any base bt n c lo hi A es w' hs hb hn1
    have hT := fun lo hi' w' (hs : Sl w' lo hi' 3 A n c (ecells es)) => term_any base bt n c i lo hi' A es w' hs hb hn1 hi
    have hE := fun lo hi' w' (hs : Sl w' lo hi' 3 A n c (ecells es)) => entry_any base bt n c i lo hi' A es w' hs hb hn1 hi
    have hH := fun lo hi' w' (hs : Sl w' lo hi' 3 A n c (ecells es)) => hint_any base bt n c i lo hi' A es w' hs hb hn1 hi
    have hN := fun lo hi w' (hs : Sl w' lo hi 3 A n c (ecells es)) => newer_any base bt n c term last lo hi A es w' hs hb hn1
    have hLT := fun lo hi w' (hs : Sl w' lo hi 3 A n c (ecells es)) => lastTerm_any base bt n c lo hi A es w' hs hb hn1
    simp only [← hint_eq] at hRH
    have X0 := edata_at E0 base i
    generalize hintF base bt es i = H at hRH hH
    generalize termAt base bt es i = T at hT hRT
    generalize entAt base es i = x at hE hRE X0
    generalize lastTerm base bt es = LT at hLT hRL hN hRN
    generalize decide (LT < term ∨ (term = LT ∧ base + n ≤ last)) = dn at hN hRN
    generalize decide (base ≤ i ∧ i ≤ base + n) = d1 at hT hRT
    generalize decide (base < i ∧ i ≤ base + n) = d2 at hE hRE
    obtain ⟨xt, xk, xA, xc, xl⟩ := x
    simp only [Ent.v] at hE hRE
    have HE := Lib.hid hE
    have HRE := Lib.hid hRE
    have HT := Lib.hid hT
    have HRT := Lib.hid hRT
    have HRH := Lib.hid hRH
    have HH := Lib.hid hH
    have HRN := Lib.hid hRN
    have HNN := Lib.hid hN
    have HRL := Lib.hid hRL
    have HLT := Lib.hid hLT
    clear hE hRE hT hRT hRH hH hRN hN hRL hLT E0
    go_enter Try.func3, Try.ntmps3
    go_wp2_with fail
    refine (awake9_any _).mono ?_
    rintro e w1 ⟨rfl, hb1⟩
    have S1 := (S0.alloc (by decide) _).after (by decide) hb1
    have X1 := (X0.alloc _).after hb1
    have D1 := (below_alloc' (Below.refl w.heap.size w) _ (Nat.le_refl _)).trans (hb1.mono (below_alloc' (Below.refl w.heap.size w) _ (Nat.le_refl _)).size)
    have B1 := (Blk.new _ _ _).after hb1
    clear S0 X0 hb1
    obtain ⟨Bx0, Bx1, Bx2⟩ := B1.c3
    go_wp2_with fail
    refine (short_yes hb hn30).mono ?_
    rintro e _ ⟨rfl, rfl⟩
    go_wp2_with fail
    refine (doc_any base n c (bt : Int) A _).mono ?_
    rintro e w2 ⟨rfl, hb2⟩
    have D2 := D1.trans (hb2.mono D1.size)
    have S2 := S1.after (by decide) hb2
    have X2 := X1.after hb2
    have B2 := B1.after hb2
    clear S1 X1 B1 D1 hb2 Bx0 Bx1 Bx2
    obtain ⟨Bx0, Bx1, Bx2⟩ := (B2.alloc (Obj.cells #[.int .u64 (base : Int), .int .u64 (bt : Int), .slice A n c] 28)).c3
    go_wp2_with fail
    refine (last_any base n c (bt : Int) A _ hb hn1).mono ?_
    rintro e w3 ⟨rfl, hb3⟩
    have D3 := (below_alloc' D2 _ (Nat.le_refl _)).trans (hb3.mono (below_alloc' D2 _ (Nat.le_refl _)).size)
    have S3 := (S2.alloc (by decide) _).after (by decide) hb3
    have X3 := (X2.alloc _).after hb3
    have B3 := (B2.alloc _).after hb3
    have R3 := (Blk.new _ _ _).after hb3
    clear S2 X2 B2 D2 hb3 Bx0 Bx1 Bx2
    obtain ⟨Bx0, Bx1, Bx2⟩ := B3.c3
    go_wp2_with fail
    refine (HT.out _ _ _ S3).mono ?_
    rintro e w4 ⟨rfl, hb4⟩
    have D4 := D3.trans (hb4.mono D3.size)
    have S4 := S3.after (by decide) hb4
    have X4 := X3.after hb4
    have B4 := B3.after hb4
    have R4 := R3.after hb4
    clear S3 X3 B3 R3 D3 hb4 Bx0 Bx1 Bx2
    obtain ⟨Rx0, Rx1, Rx2⟩ := R4.c3
    go_wp2_with fail
    refine (HRT.out _ _ _ S4).mono ?_
    rintro e w5 ⟨rfl, hb5⟩
    have D5 := D4.trans (hb5.mono D4.size)
    have S5 := S4.after (by decide) hb5
    have X5 := X4.after hb5
    have B5 := B4.after hb5
    have R5 := R4.after hb5
    clear S4 X4 B4 R4 D4 hb5 Rx0 Rx1 Rx2
    obtain ⟨Bx0, Bx1, Bx2⟩ := B5.c3
    go_wp2_with fail
    refine (HE.out _ _ _ S5).mono ?_
    rintro e w6 ⟨rfl, hb6⟩
    have D6 := D5.trans (hb6.mono D5.size)
    have S6 := S5.after (by decide) hb6
    have X6 := X5.after hb6
    have B6 := B5.after hb6
    have R6 := R5.after hb6
    clear S5 X5 B5 R5 D5 hb6 Bx0 Bx1 Bx2
    obtain ⟨Rx0, Rx1, Rx2⟩ := (R6.alloc (Obj.cells #[.int .u64 (xt : Int), .int .i64 xk, .slice xA xl.length xc] 35)).c3
    go_wp2_with fail
    refine (HRE.out _ _ _ (S6.alloc (by decide) _)).mono ?_
    rintro e w7 ⟨rfl, hb7⟩
    have D7 := (below_alloc' D6 _ (Nat.le_refl _)).trans (hb7.mono (below_alloc' D6 _ (Nat.le_refl _)).size)
    have S7 := (S6.alloc (by decide) _).after (by decide) hb7
    have X7 := (X6.alloc _).after hb7
    have B7 := (B6.alloc _).after hb7
    have R7 := (R6.alloc _).after hb7
    have P7 := (Blk.new _ _ _).after hb7
    clear S6 X6 B6 R6 D6 hb7 Rx0 Rx1 Rx2
    obtain ⟨Bx0, Bx1, Bx2⟩ := (B7.alloc (Obj.cells #[.int .u64 (xt : Int), .int .i64 xk, .slice xA xl.length xc] 35)).c3
    go_wp2_with fail
    refine (HLT.out _ _ _ (S7.alloc (by decide) _)).mono ?_
    rintro e w8 ⟨rfl, hb8⟩
    have D8 := (below_alloc' D7 _ (Nat.le_refl _)).trans (hb8.mono (below_alloc' D7 _ (Nat.le_refl _)).size)
    have S8 := (S7.alloc (by decide) _).after (by decide) hb8
    have X8 := (X7.alloc _).after hb8
    have B8 := (B7.alloc _).after hb8
    have R8 := (R7.alloc _).after hb8
    have P8 := (P7.alloc _).after hb8
    have Q8 := (Blk.new _ _ _).after hb8
    clear S7 X7 B7 R7 P7 D7 hb8 Bx0 Bx1 Bx2
    obtain ⟨Bx0, Bx1, Bx2⟩ := B8.c3
    go_wp2_with fail
    refine (HNN.out _ _ _ S8).mono ?_
    rintro e w9 ⟨rfl, hb9⟩
    have D9 := D8.trans (hb9.mono D8.size)
    have S9 := S8.after (by decide) hb9
    have X9 := X8.after hb9
    have B9 := B8.after hb9
    have R9 := R8.after hb9
    have P9 := P8.after hb9
    have Q9 := Q8.after hb9
    clear S8 X8 B8 R8 P8 Q8 D8 hb9 Bx0 Bx1 Bx2
    obtain ⟨Bx0, Bx1, Bx2⟩ := B9.c3
    go_wp2_with fail
    refine (HH.out _ _ _ S9).mono ?_
    rintro e w10 ⟨rfl, hb10⟩
    have D10 := D9.trans (hb10.mono D9.size)
    have S10 := S9.after (by decide) hb10
    have X10 := X9.after hb10
    have B10 := B9.after hb10
    have R10 := R9.after hb10
    have P10 := P9.after hb10
    have Q10 := Q9.after hb10
    clear S9 X9 B9 R9 P9 Q9 D9 hb10 Bx0 Bx1 Bx2
    obtain ⟨Rx0, Rx1, Rx2⟩ := R10.c3
    go_wp2_with fail
    refine (rlast_any base n c (bt : Int) A _ hb hn1).mono ?_
    rintro e w11 ⟨rfl, hb11⟩
    have D11 := D10.trans (hb11.mono D10.size)
    have S11 := S10.after (by decide) hb11
    have X11 := X10.after hb11
    have B11 := B10.after hb11
    have R11 := R10.after hb11
    have P11 := P10.after hb11
    have Q11 := Q10.after hb11
    clear S10 X10 B10 R10 P10 Q10 D10 hb11 Rx0 Rx1 Rx2
    obtain ⟨Px0, Px1, Px2⟩ := P11.c3
    obtain ⟨Qx0, Qx1, Qx2⟩ := (Q11.alloc (Obj.cells #[.int .u64 (xt : Int), .int .i64 xk, .slice xA xl.length xc] 35)).c3
    go_wp2_with fail
    have L1 := (sl_at w11 w11.heap.size 3 1 1 #[.int .u64 (xt : Int), .int .i64 xk, .slice xA xl.length xc] 35 rfl rfl (Nat.le_refl _) (by decide)).alloc (by decide) (Obj.cells #[.int .u64 (xt : Int), .int .i64 xk, .slice xA xl.length xc] 35)
    have L2 := sl_at (w11.alloc (Obj.cells #[.int .u64 (xt : Int), .int .i64 xk, .slice xA xl.length xc] 35)) (w11.heap.size + 1) 3 1 1 #[.int .u64 (xt : Int), .int .i64 xk, .slice xA xl.length xc] 35 (by simp) rfl (Nat.le_refl _) (by decide)
    skip
    refine (entries_b _ _ 1 1 1 1 _ _ _ _ [⟨xt, xk, xA, xc, xl⟩] [⟨xt, xk, xA, xc, xl⟩] _ L1 L2 ((X11.alloc _).alloc _) ((X11.alloc _).alloc _) rfl).mono ?_
    rintro e w12 ⟨rfl, hb12⟩
    have D12 := (below_alloc' (below_alloc' D11 _ (Nat.le_refl _)) _ (Nat.le_refl _)).trans (hb12.mono (below_alloc' (below_alloc' D11 _ (Nat.le_refl _)) _ (Nat.le_refl _)).size)
    have S12 := ((S11.alloc (by decide) _).alloc (by decide) _).after (by decide) hb12
    have X12 := ((X11.alloc _).alloc _).after hb12
    have B12 := ((B11.alloc _).alloc _).after hb12
    have R12 := ((R11.alloc _).alloc _).after hb12
    have P12 := ((P11.alloc _).alloc _).after hb12
    have Q12 := ((Q11.alloc _).alloc _).after hb12
    clear S11 X11 B11 R11 P11 Q11 D11 hb12 Px0 Px1 Px2 Qx0 Qx1 Qx2
    obtain ⟨Rx0, Rx1, Rx2⟩ := R12.c3
    clear L1 L2
    go_wp2_with fail
    refine (HRL.out _ _ _ S12).mono ?_
    rintro e w13 ⟨rfl, hb13⟩
    have D13 := D12.trans (hb13.mono D12.size)
    have S13 := S12.after (by decide) hb13
    have X13 := X12.after hb13
    have B13 := B12.after hb13
    have R13 := R12.after hb13
    have P13 := P12.after hb13
    have Q13 := Q12.after hb13
    clear S12 X12 B12 R12 P12 Q12 D12 hb13 Rx0 Rx1 Rx2
    obtain ⟨Rx0, Rx1, Rx2⟩ := R13.c3
    go_wp2_with fail
    refine (HRN.out _ _ _ S13).mono ?_
    rintro e w14 ⟨rfl, hb14⟩
    have D14 := D13.trans (hb14.mono D13.size)
    have S14 := S13.after (by decide) hb14
    have X14 := X13.after hb14
    have B14 := B13.after hb14
    have R14 := R13.after hb14
    have P14 := P13.after hb14
    have Q14 := Q13.after hb14
    clear S13 X13 B13 R13 P13 Q13 D13 hb14 Rx0 Rx1 Rx2
    obtain ⟨Rx0, Rx1, Rx2⟩ := R14.c3
    go_wp2_with fail
    refine (HRH.out _ _ _ S14).mono ?_
    rintro e w15 ⟨rfl, hb15⟩
    have D15 := D14.trans (hb15.mono D14.size)
    have S15 := S14.after (by decide) hb15
    have X15 := X14.after hb15
    have B15 := B14.after hb15
    have R15 := R14.after hb15
    have P15 := P14.after hb15
    have Q15 := Q14.after hb15
    clear S14 X14 B14 R14 P14 Q14 D14 hb15 Rx0 Rx1 Rx2
    go_wp2
    go_ret
    exact ⟨rfl, D15⟩
  · go_enter Try.func3, Try.ntmps3
    go_wp2_with fail
    refine (awake9_any _).mono ?_
    rintro e w1 ⟨rfl, hb1⟩
    have B1 := (Blk.new w _ _).after hb1
    obtain ⟨x0, x1, x2⟩ := B1.c3
    go_wp2_with fail
    refine (short_no hsh).mono ?_
    rintro e _ ⟨rfl, rfl⟩
    go_wp2
    go_ret
    exact ⟨rfl, below_boxed hb1⟩
end Go.Proofs.Ytbgdepaffgeinaa
