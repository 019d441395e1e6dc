import Derived.Test.YtciolppoanfiaaaDoorXCheck
import Derived.Deep.DeepMust
import Derived.Deep.DeepCutAuto
namespace Go.Proofs.YtciolppoanfiaaaDoor
open Go.RowKit

theorem Blk.c10 {w : World} {g : Nat} {t : TypeId} {a0 a1 a2 a3 a4 a5 a6 a7 a8 a9 : Value} (h : Blk w g t #[a0, a1, a2, a3, a4, a5, a6, a7, a8, a9]) : w.cell? ⟨g, 0, none⟩ = some a0 ∧ w.cell? ⟨g, 1, none⟩ = some a1 ∧ w.cell? ⟨g, 2, none⟩ = some a2 ∧ w.cell? ⟨g, 3, none⟩ = some a3 ∧ w.cell? ⟨g, 4, none⟩ = some a4 ∧ w.cell? ⟨g, 5, none⟩ = some a5 ∧ w.cell? ⟨g, 6, none⟩ = some a6 ∧ w.cell? ⟨g, 7, none⟩ = some a7 ∧ w.cell? ⟨g, 8, none⟩ = some a8 ∧ w.cell? ⟨g, 9, none⟩ = some a9 :=
  ⟨h.cell 0, h.cell 1, h.cell 2, h.cell 3, h.cell 4, h.cell 5, h.cell 6, h.cell 7, h.cell 8, h.cell 9⟩
set_option maxRecDepth 100000 in
set_option maxHeartbeats 10000000 in
theorem check_any (k f t : Int) (te ix pr co : Nat) (ok : Bool) (dA : Option Addr) (dn dc : Nat) (eA : Option Addr) (n ec lo hi : Nat) (es : List Ent) (w : World) (hs : Sl w lo hi 3 eA n ec (ecells es)) (hdn : dn ≤ 9223372036854775807) :
    Calls Tryd.prog 23 #[.agg #[.int .i64 k, .int .i64 f, .int .i64 t, .int .u64 (te : Int), .int .u64 (ix : Int), .int .u64 (pr : Int), .int .u64 (co : Int), .bool ok, .slice dA dn dc, .slice eA n ec]] w fun e w' => e = .returned (.int .i64 (checkF k f t dn es : Nat)) ∧ Below w.heap.size w w' := by
  have hl : es.length = n := by have := hs.len; rw [ecells_len] at this; omega
  have hcap := hs.cap
  have hmax := hs.max
  unfold checkF
  rw [hl]
  clear hl
  have hs0 := hs.alloc (by decide) (.cells #[.int .i64 k, .int .i64 f, .int .i64 t, .int .u64 (te : Int), .int .u64 (ix : Int), .int .u64 (pr : Int), .int .u64 (co : Int), .bool ok, .slice dA dn dc, .slice eA n ec] 41)
  have B0 := Blk.new w 41 #[.int .i64 k, .int .i64 f, .int .i64 t, .int .u64 (te : Int), .int .u64 (ix : Int), .int .u64 (pr : Int), .int .u64 (co : Int), .bool ok, .slice dA dn dc, .slice eA n ec]
  have D0 := (Below.refl w.heap.size w).alloc (Nat.le_refl _) (.cells #[.int .i64 k, .int .i64 f, .int .i64 t, .int .u64 (te : Int), .int .u64 (ix : Int), .int .u64 (pr : Int), .int .u64 (co : Int), .bool ok, .slice dA dn dc, .slice eA n ec] 41)
  obtain ⟨wb, hwb⟩ : ∃ wb, w.alloc (.cells #[.int .i64 k, .int .i64 f, .int .i64 t, .int .u64 (te : Int), .int .u64 (ix : Int), .int .u64 (pr : Int), .int .u64 (co : Int), .bool ok, .slice dA dn dc, .slice eA n ec] 41) = wb := ⟨_, rfl⟩
  rw [hwb] at hs0 B0 D0
  have hlong := containsFunc_long eA n ec lo hi es _ hs0
  have hstr := fun w' (h : Below wb.heap.size wb w') => containsFunc_strange eA n ec lo hi es w' (hs0.after (by decide) h)
  have HWB := Lib.hid hwb
  clear hwb
  have hnf := node_any f
  have hnt := node_any t
  generalize hA : es.any longE = a at hlong ⊢
  generalize hB : es.any strangeE = b at hstr ⊢
  clear hA hB hs hs0
  by_cases h1 : k < 1
  · rw [if_pos (.inl h1)]
    have q1 : decide (k < 1) = true := decide_eq_true h1
    clear hlong hstr hnf hnt
    go_enter Tryd.func23, Tryd.ntmps23
    go_upto_region 1 with fail
    rw [HWB.out]
    generalize Value.agg #[.int .i64 k, .int .i64 f, .int .i64 t, .int .u64 (te : Int), .int .u64 (ix : Int), .int .u64 (pr : Int), .int .u64 (co : Int), .bool ok, .slice dA dn dc, .slice eA n ec] = V
    obtain ⟨x0, x1, x2, x3, x4, x5, x6, x7, x8, x9⟩ := B0.c10
    go_wp2
    go_ret
    exact ⟨rfl, D0⟩
  · have q1 : decide (k < 1) = false := decide_eq_false h1
    by_cases h2 : 12 < k
    · rw [if_pos (.inr h2)]
      have q2 : decide (12 < k) = true := decide_eq_true h2
      clear hlong hstr hnf hnt
      go_enter Tryd.func23, Tryd.ntmps23
      go_upto_region 1 with fail
      rw [HWB.out]
      generalize Value.agg #[.int .i64 k, .int .i64 f, .int .i64 t, .int .u64 (te : Int), .int .u64 (ix : Int), .int .u64 (pr : Int), .int .u64 (co : Int), .bool ok, .slice dA dn dc, .slice eA n ec] = V
      obtain ⟨x0, x1, x2, x3, x4, x5, x6, x7, x8, x9⟩ := B0.c10
      go_wp2
      go_ret
      exact ⟨rfl, D0⟩
    · rw [if_neg (by omega)]
      have q2 : decide (12 < k) = false := decide_eq_false h2
      by_cases h3 : 0 ≤ f ∧ f ≤ 15
      · rw [decide_eq_true (p := 0 ≤ f ∧ f ≤ 15) h3] at hnf
        by_cases h4 : 0 ≤ t ∧ t ≤ 15
        · rw [if_neg (by omega)]
          rw [decide_eq_true (p := 0 ≤ t ∧ t ≤ 15) h4] at hnt
          clear h3 h4
          by_cases h5 : 700 < dn
          · rw [if_pos (.inl h5)]
            have q3 : decide ((700 : Int) < (dn : Int)) = true := decide_eq_true (by omega)
            clear hlong hstr
            have HNF := Lib.hid hnf
            have HNT := Lib.hid hnt
            clear hnf hnt
            go_enter Tryd.func23, Tryd.ntmps23
            go_upto_region 1 with fail
            rw [HWB.out]
            generalize Value.agg #[.int .i64 k, .int .i64 f, .int .i64 t, .int .u64 (te : Int), .int .u64 (ix : Int), .int .u64 (pr : Int), .int .u64 (co : Int), .bool ok, .slice dA dn dc, .slice eA n ec] = V
            obtain ⟨x0, x1, x2, x3, x4, x5, x6, x7, x8, x9⟩ := B0.c10
            go_wp2_with fail
            refine (HNF.out _).mono ?_
            rintro e _ ⟨rfl, rfl⟩
            go_wp2_with fail
            refine (HNT.out _).mono ?_
            rintro e _ ⟨rfl, rfl⟩
            go_wp2
            go_ret
            exact ⟨rfl, D0⟩
          · have q3 : decide ((700 : Int) < (dn : Int)) = false := decide_eq_false (by omega)
            by_cases h6 : 8 < n
            · rw [if_pos (.inr (.inl h6))]
              have q4 : decide ((8 : Int) < (n : Int)) = true := decide_eq_true (by omega)
              clear hlong hstr
              have HNF := Lib.hid hnf
              have HNT := Lib.hid hnt
              clear hnf hnt
              go_enter Tryd.func23, Tryd.ntmps23
              go_upto_region 1 with fail
              rw [HWB.out]
              generalize Value.agg #[.int .i64 k, .int .i64 f, .int .i64 t, .int .u64 (te : Int), .int .u64 (ix : Int), .int .u64 (pr : Int), .int .u64 (co : Int), .bool ok, .slice dA dn dc, .slice eA n ec] = V
              obtain ⟨x0, x1, x2, x3, x4, x5, x6, x7, x8, x9⟩ := B0.c10
              go_wp2_with fail
              refine (HNF.out _).mono ?_
              rintro e _ ⟨rfl, rfl⟩
              go_wp2_with fail
              refine (HNT.out _).mono ?_
              rintro e _ ⟨rfl, rfl⟩
              go_wp2
              go_ret
              exact ⟨rfl, D0⟩
            · have q4 : decide ((8 : Int) < (n : Int)) = false := decide_eq_false (by omega)
              cases a with
              | true =>
                rw [if_pos (.inr (.inr rfl))]
                clear hstr
                have HNF := Lib.hid hnf
                have HNT := Lib.hid hnt
                clear hnf hnt
                have HLO := Lib.hid hlong
                clear hlong
                go_enter Tryd.func23, Tryd.ntmps23
                go_upto_region 1 with fail
                rw [HWB.out]
                generalize Value.agg #[.int .i64 k, .int .i64 f, .int .i64 t, .int .u64 (te : Int), .int .u64 (ix : Int), .int .u64 (pr : Int), .int .u64 (co : Int), .bool ok, .slice dA dn dc, .slice eA n ec] = V
                obtain ⟨x0, x1, x2, x3, x4, x5, x6, x7, x8, x9⟩ := B0.c10
                go_wp2_with fail
                refine (HNF.out _).mono ?_
                rintro e _ ⟨rfl, rfl⟩
                go_wp2_with fail
                refine (HNT.out _).mono ?_
                rintro e _ ⟨rfl, rfl⟩
                go_wp2_with fail
                refine HLO.out.mono ?_
                rintro e w1 ⟨rfl, hb1⟩
                clear x0 x1 x2 x3 x4 x5 x6 x7 x8 x9
                obtain ⟨x0, x1, x2, x3, x4, x5, x6, x7, x8, x9⟩ := (B0.after hb1).c10
                go_wp2
                go_ret
                exact ⟨rfl, D0.trans (hb1.mono D0.size)⟩
              | false =>
                rw [if_neg (by simp; omega)]
                cases b with
                | true =>
                  rw [if_pos rfl]
                  have HNF := Lib.hid hnf
                  have HNT := Lib.hid hnt
                  clear hnf hnt
                  have HLO := Lib.hid hlong
                  clear hlong
                  have HST := Lib.hid hstr
                  clear hstr
                  go_enter Tryd.func23, Tryd.ntmps23
                  go_upto_region 1 with fail
                  rw [HWB.out]
                  generalize Value.agg #[.int .i64 k, .int .i64 f, .int .i64 t, .int .u64 (te : Int), .int .u64 (ix : Int), .int .u64 (pr : Int), .int .u64 (co : Int), .bool ok, .slice dA dn dc, .slice eA n ec] = V
                  obtain ⟨x0, x1, x2, x3, x4, x5, x6, x7, x8, x9⟩ := B0.c10
                  go_wp2_with fail
                  refine (HNF.out _).mono ?_
                  rintro e _ ⟨rfl, rfl⟩
                  go_wp2_with fail
                  refine (HNT.out _).mono ?_
                  rintro e _ ⟨rfl, rfl⟩
                  go_wp2_with fail
                  refine HLO.out.mono ?_
                  rintro e w1 ⟨rfl, hb1⟩
                  clear x0 x1 x2 x3 x4 x5 x6 x7 x8 x9
                  obtain ⟨x0, x1, x2, x3, x4, x5, x6, x7, x8, x9⟩ := (B0.after hb1).c10
                  go_wp2_with fail
                  refine (HST.out _ hb1).mono ?_
                  rintro e w2 ⟨rfl, hb2⟩
                  go_wp2
                  go_ret
                  exact ⟨rfl, D0.trans ((hb1.trans (hb2.mono hb1.size)).mono D0.size)⟩
                | false =>
                  rw [if_neg (by simp)]
                  have HNF := Lib.hid hnf
                  have HNT := Lib.hid hnt
                  clear hnf hnt
                  have HLO := Lib.hid hlong
                  clear hlong
                  have HST := Lib.hid hstr
                  clear hstr
                  go_enter Tryd.func23, Tryd.ntmps23
                  go_upto_region 1 with fail
                  rw [HWB.out]
                  generalize Value.agg #[.int .i64 k, .int .i64 f, .int .i64 t, .int .u64 (te : Int), .int .u64 (ix : Int), .int .u64 (pr : Int), .int .u64 (co : Int), .bool ok, .slice dA dn dc, .slice eA n ec] = V
                  obtain ⟨x0, x1, x2, x3, x4, x5, x6, x7, x8, x9⟩ := B0.c10
                  go_wp2_with fail
                  refine (HNF.out _).mono ?_
                  rintro e _ ⟨rfl, rfl⟩
                  go_wp2_with fail
                  refine (HNT.out _).mono ?_
                  rintro e _ ⟨rfl, rfl⟩
                  go_wp2_with fail
                  refine HLO.out.mono ?_
                  rintro e w1 ⟨rfl, hb1⟩
                  clear x0 x1 x2 x3 x4 x5 x6 x7 x8 x9
                  obtain ⟨x0, x1, x2, x3, x4, x5, x6, x7, x8, x9⟩ := (B0.after hb1).c10
                  go_wp2_with fail
                  refine (HST.out _ hb1).mono ?_
                  rintro e w2 ⟨rfl, hb2⟩
                  go_wp2
                  go_ret
                  exact ⟨rfl, D0.trans ((hb1.trans (hb2.mono hb1.size)).mono D0.size)⟩
        · rw [if_pos (.inr h4)]
          rw [decide_eq_false (p := 0 ≤ t ∧ t ≤ 15) h4] at hnt
          clear hlong hstr h4 h3
          have HNF := Lib.hid hnf
          have HNT := Lib.hid hnt
          clear hnf hnt
          go_enter Tryd.func23, Tryd.ntmps23
          go_upto_region 1 with fail
          rw [HWB.out]
          generalize Value.agg #[.int .i64 k, .int .i64 f, .int .i64 t, .int .u64 (te : Int), .int .u64 (ix : Int), .int .u64 (pr : Int), .int .u64 (co : Int), .bool ok, .slice dA dn dc, .slice eA n ec] = V
          obtain ⟨x0, x1, x2, x3, x4, x5, x6, x7, x8, x9⟩ := B0.c10
          go_wp2_with fail
          refine (HNF.out _).mono ?_
          rintro e _ ⟨rfl, rfl⟩
          go_wp2_with fail
          refine (HNT.out _).mono ?_
          rintro e _ ⟨rfl, rfl⟩
          go_wp2
          go_ret
          exact ⟨rfl, D0⟩
      · rw [if_pos (.inl h3)]
        rw [decide_eq_false (p := 0 ≤ f ∧ f ≤ 15) h3] at hnf
        clear hlong hstr h3
        have HNF := Lib.hid hnf
        have HNT := Lib.hid hnt
        clear hnf hnt
        go_enter Tryd.func23, Tryd.ntmps23
        go_upto_region 1 with fail
        rw [HWB.out]
        generalize Value.agg #[.int .i64 k, .int .i64 f, .int .i64 t, .int .u64 (te : Int), .int .u64 (ix : Int), .int .u64 (pr : Int), .int .u64 (co : Int), .bool ok, .slice dA dn dc, .slice eA n ec] = V
        obtain ⟨x0, x1, x2, x3, x4, x5, x6, x7, x8, x9⟩ := B0.c10
        go_wp2_with fail
        refine (HNF.out _).mono ?_
        rintro e _ ⟨rfl, rfl⟩
        go_wp2
        go_ret
        exact ⟨rfl, D0⟩
end Go.Proofs.YtciolppoanfiaaaDoor
