/- The document's Set, Stop. -/
import Derived.Test.YtcocakbopbehjaaClkRef2
namespace Go.Proofs.Ytcocakbopbehjaa
open Go.RowKit
def rsetF (i : Nat) (id : Int) (a x : Nat) (l : List RT) : List RT × Nat :=
  if 18446744073709551616 ≤ x + a then (l, 42)
  else if l.any (isT (i : Int) id) = false ∧ 40 ≤ (rsel (i : Int) l).length then (l, 42)
  else (rwo (i : Int) id l ++ [((i : Int), id, x + a)], 0)
def rstopF (i : Nat) (id : Int) (l : List RT) : List RT × Nat := if l.any (isT (i : Int) id) = true then (rwo (i : Int) id l, 0) else (l, 41)
section
variable {w : World} {g : Nat} {vn vp vt : Value} {N : List Nat} {P : List Bool} {l : List RT}
/-- another row of timers is laid in -/
theorem RS.store (h : RS w g vn vp vt N P l) {w4 : World} {v4 : Value} {l' : List RT} (hb : Below w.heap.size w w4) (hr : w4.ownsRow w.heap.size 73 3 v4 l'.length (rcells l')) (hbl : ∀ t ∈ l', t.2.2 < 18446744073709551616) (hlen : l'.length ≤ 1000) :
    RS (w4.setCell ⟨g, 2, none⟩ v4) g vn vp v4 N P l' ∧ Chg (ROwn g vn vp vt) w (w4.setCell ⟨g, 2, none⟩ v4) ∧ ∀ b, v4.ownBlock = some b → w.heap.size ≤ b := by
  have hb4 := h.blk.after hb
  have hgl := h.blk.lt
  have hng : v4.ownBlock ≠ some g := fun e => by have := (hr.lt g e).1; omega
  refine ⟨⟨by have := hb4.set_ 2 v4; simpa using this, own_far (own_after h.rn hb) (row_ne (own_after h.rn hb) hb4 (by decide)) _ _, own_far (own_after h.rp hb) (row_ne (own_after h.rp hb) hb4 (by decide)) _ _, own_wide (own_far hr hng _ _) (Nat.zero_le _), h.same, h.short, h.bN, hbl, hlen⟩, Chg.put (Chg.below hb) (.inl rfl) 2 _, fun b hb' => (hr.lt b hb').1⟩
theorem rwo_sub {nd id : Int} {l : List RT} {t : RT} (h : t ∈ rwo nd id l) : t ∈ l := (List.mem_filter.1 h).1
set_option maxRecDepth 100000 in
theorem rset_no (i id a : Int) (h : RS w g vn vp vt N P l) (hi : ¬ (0 ≤ i ∧ i < (N.length : Int))) :
    Calls Try.prog 19 #[.pointer (some ⟨g, 0, none⟩), .int .i64 i, .int .i64 id, .int .u64 a] w fun e w' => e = .returned (.int .i64 31) ∧ w = w' := by
  have hC := rin_any i w h (decide_eq_false hi)
  clear h hi
  go_enter Try.func19, Try.ntmps19
  go_wp2_with fail
  refine hC.mono ?_
  rintro e _ ⟨rfl, rfl⟩
  go_wp2
  go_ret
  exact ⟨rfl, rfl⟩
set_option maxRecDepth 100000 in
set_option maxHeartbeats 3200000 in
theorem rset_any (i : Nat) (id : Int) (a : Nat) (h : RS w g vn vp vt N P l) {x : Nat} (hi : N[i]? = some x) (hlen : l.length ≤ 900) {l' : List RT} {E : Nat} (hE : rsetF i id a x l = (l', E)) :
    Calls Try.prog 19 #[.pointer (some ⟨g, 0, none⟩), .int .i64 (i : Int), .int .i64 id, .int .u64 (a : Int)] w fun e w' => ∃ vt', e = .returned (.int .i64 (E : Int)) ∧ RS w' g vn vp vt' N P l' ∧ Chg (ROwn g vn vp vt) w w' ∧ ∀ b, vt'.ownBlock = some b → vt.ownBlock = some b ∨ w.heap.size ≤ b := by
  obtain ⟨i0, hi0, hz0, hz1, hz2⟩ := info_parts rt_info
  have hil := (List.getElem?_eq_some_iff.1 hi).1
  have hC := rin_any (i : Int) w h (decide_eq_true (by omega))
  have hW := rwithout_any (i : Int) id h
  have HH := Lib.hid h
  have HC := Lib.hid hC
  have HWO := Lib.hid hW
  obtain ⟨b, c, y, rfl, hy, hcell, hfz, hyb, hnc⟩ := h.now hil
  rw [hi] at hy
  injection hy with hy
  subst hy
  have hsh := h.short
  have hF : ∀ W, Calls Try.prog 33 #[.int .u64 (x : Int), .int .u64 (a : Int)] W fun e w' => e = .returned (.bool (decide (x + a < 18446744073709551616))) ∧ W = w' := fun W => rfits_any x a W hyb rfl
  have HF := Lib.hid hF
  have hbk := h.blk
  have HB := Lib.hid hbk
  have hgl := hbk.lt
  have hbl : b < w.heap.size := (h.rn.lt b rfl).2
  have HY := Lib.hid hyb
  have HI := Lib.hid hi
  have HE := Lib.hid hE
  obtain ⟨n, hn⟩ : ∃ n, N.length = n := ⟨_, rfl⟩
  have HN := Lib.hid hn
  simp only [hn] at hil hsh hnc HB ⊢
  have hml : (rsel (i : Int) l).length ≤ 900 := Nat.le_trans (rsel_len _ _) hlen
  have hrl : (rwo (i : Int) id l).length ≤ 900 := Nat.le_trans (rwo_len _ _ _) hlen
  have hfull : (l', E) = (l, 42) → ∀ W, Below w.heap.size w W → ∃ vt', (42 : Nat) = E ∧ RS W g (.slice (some ⟨b, 0, none⟩) N.length c) vp vt' N P l' ∧ Chg (ROwn g (.slice (some ⟨b, 0, none⟩) N.length c) vp vt) w W ∧ ∀ b, vt'.ownBlock = some b → vt.ownBlock = some b ∨ w.heap.size ≤ b := fun e W hWW => by
    injection e with e1 e2
    subst e1 e2
    exact ⟨vt, rfl, h.after hWW, Chg.below hWW, fun b hb => .inl hb⟩
  have HFU := Lib.hid hfull
  clear h hC hW hi hF hbk hyb hE hn hfull
  by_cases hov : 18446744073709551616 ≤ x + a
  · have hd : decide (x + a < 18446744073709551616) = false := decide_eq_false (by omega)
    have hEE : (l', E) = (l, 42) := by rw [← HE.out]; unfold rsetF; rw [if_pos hov]
    have HEE := Lib.hid hEE
    have HD := Lib.hid hd
    clear hov hEE hd
    go_enter Try.func19, Try.ntmps19
    go_wp2_with fail
    refine HC.out.mono ?_
    rintro e _ ⟨rfl, rfl⟩
    go_wp2_with fail
    refine HWO.out.mono ?_
    rintro e w1 ⟨D, d, rfl, hown, hb1⟩
    have HB1 := Lib.hid hb1
    have hc1 := hb1.cell (p := ⟨b, i, none⟩) hbl
    rw [hcell] at hc1
    obtain ⟨x0, x1, x2⟩ := (HB.out.after hb1).c3
    generalize (rwo (i : Int) id l).length = m1
    generalize l.any (isT (i : Int) id) = zz
    obtain ⟨mm, hmm⟩ : ∃ mm, (rsel (i : Int) l).length = mm := ⟨_, rfl⟩
    simp only [hmm]
    clear hown hb1 hcell hmm
    have hF1 := HF.out w1
    rw [HD.out] at hF1
    have HF1 := Lib.hid hF1
    clear hF1
    go_wp2_with fail
    refine HF1.out.mono ?_
    rintro e _ ⟨rfl, rfl⟩
    go_wp2
    go_ret
    obtain ⟨vt', e1, q⟩ := HFU.out HEE.out w1 HB1.out
    rw [HN.out] at q
    exact ⟨vt', by rw [← e1]; rfl, q⟩
  · have hd : decide (x + a < 18446744073709551616) = true := decide_eq_true (by omega)
    have hw : IntKind.u64.wrap ((x : Int) + (a : Int)) = ((x + a : Nat) : Int) := by rw [IntKind.wrap_u64]; omega
    have hxm : x + a < 18446744073709551616 := by omega
    have hEE : (l', E) = if l.any (isT (i : Int) id) = false ∧ 40 ≤ (rsel (i : Int) l).length then (l, 42) else (rwo (i : Int) id l ++ [((i : Int), id, x + a)], 0) := by rw [← HE.out]; unfold rsetF; rw [if_neg hov]
    have HEE := Lib.hid hEE
    have HD := Lib.hid hd
    have HXM := Lib.hid hxm
    obtain ⟨s, hs⟩ : ∃ s, x + a = s := ⟨_, rfl⟩
    simp only [hs] at hw HEE HXM
    clear hov hEE hd hxm hs
    by_cases hfu : l.any (isT (i : Int) id) = false ∧ 40 ≤ (rsel (i : Int) l).length
    · have HE2 := Lib.hid (HEE.out.trans (if_pos hfu))
      obtain ⟨hz, h40⟩ := hfu
      go_enter Try.func19, Try.ntmps19
      go_wp2_with fail
      refine HC.out.mono ?_
      rintro e _ ⟨rfl, rfl⟩
      go_wp2_with fail
      refine HWO.out.mono ?_
      rintro e w1 ⟨D, d, rfl, hown, hb1⟩
      have HB1 := Lib.hid hb1
      have hc1 := hb1.cell (p := ⟨b, i, none⟩) hbl
      rw [hcell] at hc1
      obtain ⟨x0, x1, x2⟩ := (HB.out.after hb1).c3
      generalize (rwo (i : Int) id l).length = m1
      simp only [hz]
      obtain ⟨mm, hmm⟩ : ∃ mm, (rsel (i : Int) l).length = mm := ⟨_, rfl⟩
      simp only [hmm] at h40 hml ⊢
      clear hown hb1 hcell hmm hz
      have hF1 := HF.out w1
      rw [HD.out] at hF1
      have HF1 := Lib.hid hF1
      clear hF1
      go_wp2_with fail
      refine HF1.out.mono ?_
      rintro e _ ⟨rfl, rfl⟩
      go_wp2
      go_ret
      obtain ⟨vt', e1, q⟩ := HFU.out HE2.out w1 HB1.out
      rw [HN.out] at q
      exact ⟨vt', by rw [← e1]; rfl, q⟩
    · have HE2 := Lib.hid (HEE.out.trans (if_neg hfu))
      have hcase : l.any (isT (i : Int) id) = true ∨ (l.any (isT (i : Int) id) = false ∧ ¬ 40 ≤ (rsel (i : Int) l).length) := by
        cases hz : l.any (isT (i : Int) id) with
        | true => exact .inl rfl
        | false => exact .inr ⟨rfl, fun h => hfu ⟨hz, h⟩⟩
      clear hfu
      go_enter Try.func19, Try.ntmps19
      go_wp2_with fail
      refine HC.out.mono ?_
      rintro e _ ⟨rfl, rfl⟩
      go_wp2_with fail
      refine HWO.out.mono ?_
      rintro e w1 ⟨D, d, rfl, hown, hb1⟩
      have HB1 := Lib.hid hb1
      have hc1 := hb1.cell (p := ⟨b, i, none⟩) hbl
      rw [hcell] at hc1
      have hb1b := HB.out.after hb1
      obtain ⟨x0, x1, x2⟩ := hb1b.c3
      have HOWN := Lib.hid hown
      have HB1B := Lib.hid hb1b
      obtain ⟨L, hL⟩ : ∃ L, rwo (i : Int) id l = L := ⟨_, rfl⟩
      simp only [hL] at hrl HOWN ⊢
      obtain ⟨m1, hm1⟩ : ∃ m1, L.length = m1 := ⟨_, rfl⟩
      simp only [hm1] at hrl HOWN ⊢
      have HL := Lib.hid hL
      have HM1 := Lib.hid hm1
      clear hown hb1 hcell hb1b hL hm1
      have hF1 := HF.out w1
      rw [HD.out] at hF1
      have HF1 := Lib.hid hF1
      have hne1 : g ≠ w1.heap.size := by have := HB1.out.size; omega
      have hne2 : b ≠ w1.heap.size := by have := HB1.out.size; omega
      clear hF1
      obtain ⟨mm, hmm⟩ : ∃ mm, (rsel (i : Int) l).length = mm := ⟨_, rfl⟩
      simp only [hmm] at hcase hml ⊢
      clear hmm
      have hfin : ∀ (v4 : Value) (w4 : World), w4.ownsRow w.heap.size 73 3 v4 (m1 + 1) (rcells L ++ [.int .i64 (i : Int), .int .i64 id, .int .u64 (s : Int)]) → (w1.alloc (.cells #[.int .i64 (i : Int), .int .i64 id, .int .u64 (s : Int)] 73)).grownBy w4 (Value.slice D m1 d).ownBlock → ∃ vt', ((0 : Nat) = E) ∧ RS (w4.setCell ⟨g, 2, none⟩ v4) g (.slice (some ⟨b, 0, none⟩) N.length c) vp vt' N P l' ∧ Chg (ROwn g (.slice (some ⟨b, 0, none⟩) N.length c) vp vt) w (w4.setCell ⟨g, 2, none⟩ v4) ∧ ∀ b, vt'.ownBlock = some b → vt.ownBlock = some b ∨ w.heap.size ≤ b := fun v4 w4 o4 g4 => by
        have hE2 := HE2.out
        rw [HL.out] at hE2
        injection hE2 with e1 e2
        subst e1
        have hlL : L.length ≤ 900 := by rw [HM1.out]; exact hrl
        obtain ⟨q1, q2, q3⟩ := HH.out.store (v4 := v4) (l' := L ++ [((i : Int), id, s)]) ((HB1.out.alloc HB1.out.size _).grown g4 (by have := HB1.out.size; simp only [alloc_size]; omega) fun b hb => (HOWN.out.lt b hb).1) (by rw [rcells_append, List.length_append, HM1.out]; exact o4) (fun t ht => by
          rcases List.mem_append.1 ht with h1 | h1
          · exact HH.out.bl t (rwo_sub (by rw [HL.out]; exact h1))
          · rw [List.mem_singleton.1 h1]; exact HXM.out) (by rw [List.length_append]; simp; omega)
        exact ⟨v4, e2.symm, q1, q2, fun b hb => .inr (q3 b hb)⟩
      have HFIN := Lib.hid hfin
      have hk4 : ∀ w4 : World, (w1.alloc (.cells #[.int .i64 (i : Int), .int .i64 id, .int .u64 (s : Int)] 73)).grownBy w4 (Value.slice D m1 d).ownBlock → Blk w4 g 49 #[.slice (some ⟨b, 0, none⟩) n c, vp, vt] := fun w4 g4 => (HB1B.out.alloc _).grown g4 fun e => by have := (HOWN.out.lt _ e.symm).1; omega
      have HK4 := Lib.hid hk4
      clear hfin hk4
      go_wp2_with fail
      refine HF1.out.mono ?_
      rintro e _ ⟨rfl, rfl⟩
      rcases hcase with hz | ⟨hz, h40⟩
      all_goals
        simp only [hz]
        go_wp2_with (at_builtin; refine wpList_app _ rfl (.tmp 47) (.tmp 60) 47 rfl w.heap.size 73 i0 _ 3 24 Try.underlying47 hi0 hz0 hz1 hz2 rfl (by omega) (.slice D m1 d) m1 (rcells L) rfl (by exact own_alloc' HOWN.out _) w1.heap.size (w1.heap.size + 1) (some ⟨w1.heap.size, 0, none⟩) 1 1 [.int .i64 (i : Int), .int .i64 id, .int .u64 (s : Int)] rfl (by exact sl_new w1 3 1 1 #[.int .i64 (i : Int), .int .i64 id, .int .u64 (s : Int)] _ rfl (Nat.le_refl _) (by decide)) (rt_three _ _ _) (by simp only [maxLen]; omega) (by omega) (by have := HB1.out.size; simp only [alloc_size]; omega) ?_; intro v4 w4 o4 g4 a4; have hb4 := HK4.out w4 g4; obtain ⟨y0, y1, y2⟩ := hb4.c3; have f2 := hb4.frozen 2; obtain ⟨A4, c4, hv4, -⟩ := own_sl o4; subst hv4)
        go_ret
        obtain ⟨vt', e1, q⟩ := HFIN.out _ w4 o4 g4
        rw [HN.out] at q
        exact ⟨vt', by rw [← e1]; rfl, q⟩
set_option maxRecDepth 100000 in
theorem rstop_no (i id : Int) (h : RS w g vn vp vt N P l) (hi : ¬ (0 ≤ i ∧ i < (N.length : Int))) :
    Calls Try.prog 20 #[.pointer (some ⟨g, 0, none⟩), .int .i64 i, .int .i64 id] w fun e w' => e = .returned (.int .i64 31) ∧ w = w' := by
  have hC := rin_any i w h (decide_eq_false hi)
  clear h hi
  go_enter Try.func20, Try.ntmps20
  go_wp2_with fail
  refine hC.mono ?_
  rintro e _ ⟨rfl, rfl⟩
  go_wp2
  go_ret
  exact ⟨rfl, rfl⟩
set_option maxRecDepth 100000 in
set_option maxHeartbeats 3200000 in
theorem rstop_any (i : Nat) (id : Int) (h : RS w g vn vp vt N P l) (hil : i < N.length) {l' : List RT} {E : Nat} (hE : rstopF i id l = (l', E)) :
    Calls Try.prog 20 #[.pointer (some ⟨g, 0, none⟩), .int .i64 (i : Int), .int .i64 id] w fun e w' => ∃ vt', e = .returned (.int .i64 (E : Int)) ∧ RS w' g vn vp vt' N P l' ∧ Chg (ROwn g vn vp vt) w w' ∧ ∀ b, vt'.ownBlock = some b → vt.ownBlock = some b ∨ w.heap.size ≤ b := by
  have hC := rin_any (i : Int) w h (decide_eq_true (by omega))
  have hW := rwithout_any (i : Int) id h
  have HH := Lib.hid h
  have HC := Lib.hid hC
  have HWO := Lib.hid hW
  have hbk := h.blk
  have HB := Lib.hid hbk
  have HE := Lib.hid hE
  have hgl := hbk.lt
  have hml : (rsel (i : Int) l).length ≤ 1000 := Nat.le_trans (rsel_len _ _) h.len
  have hrl : (rwo (i : Int) id l).length ≤ 1000 := Nat.le_trans (rwo_len _ _ _) h.len
  have hsh := h.short
  clear h hC hW hbk hE
  go_enter Try.func20, Try.ntmps20
  go_wp2_with fail
  refine HC.out.mono ?_
  rintro e _ ⟨rfl, rfl⟩
  go_wp2_with fail
  refine HWO.out.mono ?_
  rintro e w1 ⟨D, d, rfl, hown, hb1⟩
  have HB1 := Lib.hid hb1
  have hb1b := HB.out.after hb1
  obtain ⟨x0, x1, x2⟩ := hb1b.c3
  have f2 := hb1b.frozen 2
  have HOWN := Lib.hid hown
  obtain ⟨L, hL⟩ : ∃ L, rwo (i : Int) id l = L := ⟨_, rfl⟩
  simp only [hL] at hrl HOWN ⊢
  obtain ⟨m1, hm1⟩ : ∃ m1, L.length = m1 := ⟨_, rfl⟩
  have hown' := HOWN.out
  simp only [hm1] at hrl ⊢
  have HL := Lib.hid hL
  have HM1 := Lib.hid hm1
  obtain ⟨mm, hmm⟩ : ∃ mm, (rsel (i : Int) l).length = mm := ⟨_, rfl⟩
  simp only [hmm] at hml ⊢
  clear hown hown' hb1 hb1b hL hm1 hmm
  cases hz : l.any (isT (i : Int) id) with
  | false =>
    have hEE : (l', E) = (l, 41) := by rw [← HE.out]; unfold rstopF; rw [hz]; rfl
    have HEE := Lib.hid hEE
    clear hEE hz
    go_wp2
    go_ret
    have hEE := HEE.out
    injection hEE with e1 e2
    subst e1 e2
    exact ⟨vt, rfl, HH.out.after HB1.out, Chg.below HB1.out, fun b hb => .inl hb⟩
  | true =>
    have hEE : (l', E) = (L, 0) := by rw [← HE.out]; unfold rstopF; rw [if_pos hz, HL.out]
    have HEE := Lib.hid hEE
    clear hEE hz
    go_wp2
    go_ret
    have hEE := HEE.out
    injection hEE with e1 e2
    subst e1 e2
    obtain ⟨q1, q2, q3⟩ := HH.out.store (v4 := .slice D m1 d) (l' := l') HB1.out (by have := HOWN.out; rw [HM1.out] at this ⊢; exact this) (fun t ht => HH.out.bl t (rwo_sub (by rw [HL.out]; exact ht))) (by rw [HM1.out]; exact hrl)
    exact ⟨_, rfl, q1, q2, fun b hb => .inr (q3 b hb)⟩
end
end Go.Proofs.Ytcocakbopbehjaa
