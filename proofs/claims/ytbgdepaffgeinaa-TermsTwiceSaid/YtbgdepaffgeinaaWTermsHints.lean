import Derived.Test.YtbgdepaffgeinaaPKit
import Derived.Test.YtbgdepaffgeinaaPHint
import Derived.Test.YtbgdepaffgeinaaWAwake9
namespace Go.Proofs.Ytbgdepaffgeinaa
open Go.RowKit

theorem short_no {base n c : Nat} {A : Option Addr} {w : World} (h : ¬ (base < 1152921504606846976 ∧ n ≤ 30)) :
    Calls Try.prog 13 #[.int .u64 (base : Int), .slice A n c, .int .i64 30] w fun e w' => e = .returned (.bool false) ∧ w = w' := by
  have := short_any base n c A w
  rw [decide_eq_false h] at this
  exact this.mono fun _ _ ⟨h1, h2⟩ => ⟨h1, h2.symm⟩
theorem short_yes {base n c : Nat} {A : Option Addr} {w : World} (h1 : base < 1152921504606846976) (h2 : n ≤ 30) :
    Calls Try.prog 13 #[.int .u64 (base : Int), .slice A n c, .int .i64 30] w fun e w' => e = .returned (.bool true) ∧ w = w' := by
  have := short_any base n c A w
  rw [decide_eq_true ⟨h1, h2⟩] at this
  exact this.mono fun _ _ ⟨h1, h2⟩ => ⟨h1, h2.symm⟩

set_option maxRecDepth 100000 in
set_option maxHeartbeats 2000000 in
theorem termsHints_any (w : World) {v : Value} {l : Nat × Nat × List Ent} (hL : IsLog w v l) {prev : Nat} (hp : prev < 18446744073709551616) :
    Calls Try.prog 7 #[v, .int .u64 (prev : Int)] w fun e w' => e = .returned (.bool true) ∧ Below w.heap.size w w' := by
  obtain ⟨base, bt, es⟩ := l
  obtain ⟨u, rfl, ⟨A, c, lo, hi, rfl, hs, -, -⟩, -, -⟩ := hL
  simp only at hs ⊢
  obtain ⟨n, hn⟩ : ∃ n, es.length = n := ⟨_, rfl⟩
  have hcap := hs.cap
  have hmax := hs.max
  rw [hn] at hs hcap ⊢
  by_cases hsh : base < 1152921504606846976 ∧ n ≤ 30
  · obtain ⟨hb, hn30⟩ := hsh
    have hn1 : n ≤ 1000 := by omega
    obtain ⟨p, hpd⟩ : ∃ p, min prev (base + n) = p := ⟨_, rfl⟩
    have hpn : p ≤ base + n := by omega
    have hmn := run_min2u (P := Try.prog) #[22, 22] 22 prev base n p hpd
    have hpd2 := hpd
    rw [← hn] at hpd2
    have HPD := Lib.hid hpd2
    have HN := Lib.hid hn
    clear hpd hpd2 hn
    have hT := fun i w' (hi : i < 18446744073709551616) (h : Below w.heap.size w w') => term_any base bt n c i lo _ A es w' (hs.now (by decide) |>.below h (Nat.le_refl _)) hb hn1 hi
    have HT := Lib.hid hT
    have hH := fun w' (h : Below w.heap.size w w') => hint_any base bt n c prev lo _ A es w' (hs.now (by decide) |>.below h (Nat.le_refl _)) hb hn1 hp
    clear hT
    by_cases h1 : p ≤ base
    · have hh : hintF base bt es prev = base := hint_low (by rw [HPD.out]; exact h1)
      rw [hh] at hH
      have HH := Lib.hid hH
      clear hH hh
      go_enter Try.func7, Try.ntmps7
      go_wp2_with fail
      refine (awake9_any _).mono ?_
      rintro e w1 ⟨rfl, hb1⟩
      have B1 := (Blk.new w _ _).after hb1
      obtain ⟨x0, x1, x2⟩ := B1.c3
      have D1 := below_boxed hb1
      go_wp2_with fail
      refine (short_yes hb hn30).mono ?_
      rintro e _ ⟨rfl, rfl⟩
      go_wp2_with fail
      refine (HH.out _ D1).mono ?_
      rintro e w2 ⟨rfl, hb2⟩
      have B2 := B1.after hb2
      obtain ⟨y0, y1, y2⟩ := B2.c3
      go_wp2
      go_ret
      exact ⟨rfl, D1.trans (hb2.mono D1.size)⟩
    · obtain ⟨s1, s2, s3, s4⟩ := hint_spec (bt := bt) (es := es) HPD.out (by omega)
      have HHE : Hid (hintF base bt es prev = hintF base bt es prev) := rfl
      have hTp := HT.out p
      have hTh := HT.out (hintF base bt es prev)
      generalize hintF base bt es prev = h at s1 s2 s3 s4 hH hTh
      generalize hO : termAt base bt es p = O at hTp s3 s4
      generalize hTT : termAt base bt es h = T at hTh s3
      rw [decide_eq_true (p := base ≤ h ∧ h ≤ base + n) ⟨s1, by omega⟩] at hTh
      generalize decide (base ≤ p ∧ p ≤ base + n) = d at hTp
      have HH := Lib.hid hH
      have HS4 := Lib.hid s4
      have HTP := Lib.hid hTp
      have HTH := Lib.hid hTh
      clear hH hO hTT s4 hTp hTh HHE
      have hcase : (base < h ∧ ((T : Int) == (O : Int)) = false) ∨ ¬ base < h := by
        by_cases hbh : base < h
        · exact .inl ⟨hbh, by have := s3 hbh; simp; omega⟩
        · exact .inr hbh
      clear s3
      have q1 : decide (p ≤ h) = false := decide_eq_false (by omega)
      have q2 : decide (h < base) = false := decide_eq_false (by omega)
      rcases hcase with ⟨hbh, hTO⟩ | hbh
      all_goals
        first
          | have q3 : decide (base < h) = true := decide_eq_true hbh
          | have q3 : decide (base < h) = false := decide_eq_false hbh
        go_enter Try.func7, Try.ntmps7
        go_wp2_with fail
        refine (awake9_any _).mono ?_
        rintro e w1 ⟨rfl, hb1⟩
        have B1 := (Blk.new w _ _).after hb1
        obtain ⟨x0, x1, x2⟩ := B1.c3
        have D1 := below_boxed hb1
        go_wp2_with fail
        refine (short_yes hb hn30).mono ?_
        rintro e _ ⟨rfl, rfl⟩
        go_wp2_with fail
        refine (HH.out _ D1).mono ?_
        rintro e w2 ⟨rfl, hb2⟩
        have B2 := B1.after hb2
        have D2 := D1.trans (hb2.mono D1.size)
        obtain ⟨y0, y1, y2⟩ := B2.c3
        clear x0 x1 x2 hb1 hb2 B1 D1
        go_wp2_with fail
        refine (HTP.out _ (by omega) D2).mono ?_
        rintro e w3 ⟨rfl, hb3⟩
        have B3 := B2.after hb3
        have D3 := D2.trans (hb3.mono D2.size)
        obtain ⟨x0, x1, x2⟩ := B3.c3
        clear y0 y1 y2 hb3 B2 D2
        go_wp2_with fail
        refine (HTH.out _ (by omega) D3).mono ?_
        rintro e w4 ⟨rfl, hb4⟩
        have B4 := B3.after hb4
        have D4 := D3.trans (hb4.mono D3.size)
        obtain ⟨y0, y1, y2⟩ := B4.c3
        clear x0 x1 x2 hb4 B3 D3
        go_wp2
        go_loopw [14] (fun i wr => ∃ j : Nat, h < j ∧ j ≤ p + 1 ∧ i = .int .u64 j ∧ Blk wr w.heap.size 25 #[.int .u64 (base : Int), .int .u64 (bt : Int), .slice A n c] ∧ Below w.heap.size w wr) (fun i _ => p + 1 - (intOf i).toNat)
        case atStart => exact ⟨h + 1, by omega, by omega, by go_num, B4, D4⟩
        case round =>
          obtain ⟨j, hj1, hj2, rfl, Br, Dr⟩ := hrel
          clear B4 D4 y0 y1 y2
          obtain ⟨x0, x1, x2⟩ := Br.c3
          by_cases hlt : j ≤ p
          · have hTj := HT.out j
            rw [HS4.out j hj1 hlt] at hTj
            generalize decide (base ≤ j ∧ j ≤ base + n) = dj at hTj
            go_wp2_with (go_at_call 16; refine (hTj _ (by omega) Dr).mono ?_; rintro e w5 ⟨rfl, hb5⟩)
            go_roundw
            case rel => exact ⟨j + 1, by omega, by omega, by go_num, Br.after hb5, Dr.trans (hb5.mono Dr.size)⟩
            case measure => simp [intOf]; omega
          · go_wp2
            go_ret
            exact ⟨rfl, Dr⟩
  · go_enter Try.func7, Try.ntmps7
    go_wp2_with fail
    refine (awake9_any _).mono ?_
    rintro e w1 ⟨rfl, hb1⟩
    have B1 := (Blk.new w _ _).after hb1
    obtain ⟨x0, x1, x2⟩ := B1.c3
    go_wp2_with fail
    refine (short_no hsh).mono ?_
    rintro e _ ⟨rfl, rfl⟩
    go_wp2
    go_ret
    exact ⟨rfl, below_boxed hb1⟩
end Go.Proofs.Ytbgdepaffgeinaa
