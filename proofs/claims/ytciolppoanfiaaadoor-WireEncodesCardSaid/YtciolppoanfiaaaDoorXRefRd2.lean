import Derived.Test.YtciolppoanfiaaaDoorXRefRd
namespace Go.Proofs.YtciolppoanfiaaaDoor
open Go.RowKit
theorem rdV_lt2 (s : RdSt) : rdV 2 s < 65536 := by
  have := le_bound _ 2 (rdT_len s.2 s.1 2)
  simpa [rdV] using this
theorem rb_shut {s : RdSt} (h : rdS (rdN 2 s).2 (rdN 2 s).1 (rdM s.2 s.1) = true) : rbV s = [] ∧ (rbN s).2 = true := by
  constructor
  · show rdT (rdS s.2 s.1 2) (rdL s.2 s.1 2) (rdM s.2 s.1) = []
    have h' : rdS (rdS s.2 s.1 2) (rdL s.2 s.1 2) (rdM s.2 s.1) = true := h
    unfold rdT
    rw [if_pos h']
  · exact h
theorem rb_go {s : RdSt} (h : rdS (rdN 2 s).2 (rdN 2 s).1 (rdM s.2 s.1) = false) : rbV s = (rdN 2 s).1.take (rdM s.2 s.1) ∧ (rbN s).2 = false ∧ (rbN s).1 = (rdN 2 s).1.drop (rdM s.2 s.1) := by
  refine ⟨?_, h, ?_⟩
  · show rdT (rdS s.2 s.1 2) (rdL s.2 s.1 2) (rdM s.2 s.1) = _
    unfold rdT
    rw [if_neg (by rw [show rdS (rdS s.2 s.1 2) (rdL s.2 s.1 2) (rdM s.2 s.1) = false from h]; simp)]
    rfl
  · show rdL (rdS s.2 s.1 2) (rdL s.2 s.1 2) (rdM s.2 s.1) = _
    unfold rdL
    rw [if_neg (by have h' := h; unfold rdN rdL at h'; simp only at h'; rw [h']; simp)]
    rfl
set_option maxRecDepth 100000 in
set_option maxHeartbeats 1600000 in
theorem qbytes_any (g hi n c : Nat) (A : Option Addr) (B : List UInt8) (s : RdSt) (w : World) (h : RRef w g hi n A c B s) (hn : n ≤ 100000) :
    Calls Tryd.prog 83 #[.pointer (some ⟨g, 0, none⟩)] w fun e w' =>
      ∃ A' c', e = .returned (.slice A' (rbV s).length c') ∧ Sl w' 0 hi 1 A' (rbV s).length c' ((rbV s).map bv) ∧ RRef w' g hi n A c B (rbN s) ∧ w.grownBy w' (some g) := by
  have hV := rdV_lt2 s
  obtain ⟨V, hVd⟩ : ∃ V, rdV 2 s = V := ⟨_, rfl⟩
  rw [hVd] at hV
  have hM : rdM s.2 s.1 = if 1000 < V then (rdN 2 s).1.length + 1 else V := by rw [← hVd]; rfl
  have kc : IntKind.i64.wrap (V : Int) = (V : Int) := by rw [IntKind.wrap_i64]; omega
  have hq := fun w => qnum_any g hi n c A B s 2 w
  rw [hVd] at hq
  have hS := rb_shut (s := s)
  have hGo := rb_go (s := s)
  clear hVd
  generalize rbV s = bv1 at hS hGo ⊢
  generalize rbN s = bn1 at hS hGo ⊢
  generalize rdM s.2 s.1 = M at hS hGo hM
  generalize rdN 2 s = s1 at hq hS hGo hM
  have HQ := Lib.hid hq
  have HS := Lib.hid hS
  have HG := Lib.hid hGo
  have HM := Lib.hid hM
  clear hq hS hGo hM
  go_enter Tryd.func83, Tryd.ntmps83
  go_wp2_with fail
  refine (HQ.out _ h (by omega) (by omega) hn).mono ?_
  rintro e w1 ⟨rfl, R1, G1⟩
  have hS := HS.out
  have hGo := HG.out
  have hM := HM.out
  clear h HQ HS HG HM
  obtain ⟨l, b⟩ := s1
  have R0 := R1
  obtain ⟨hlen, hs, hg, a, ha, hb, hd⟩ := R1
  have hcap := hs.cap
  have hmax := hs.max
  obtain ⟨x0, x1, x2⟩ := hb.c3
  have f1 := hb.frozen 1
  have f2 := hb.frozen 2
  have kw : IntKind.i64.wrap ((a : Int) + (V : Int)) = ((a + V : Nat) : Int) := by rw [IntKind.wrap_i64]; omega
  simp only at hS hGo hM hd
  have hcase : b = true ∨ (b = false ∧ 1000 < V) ∨ (b = false ∧ V ≤ 1000 ∧ n < a + V) ∨ (b = false ∧ V ≤ 1000 ∧ a + V ≤ n) := by
    cases b
    · refine .inr ?_
      rcases Nat.lt_or_ge 1000 V with h | h
      · exact .inl ⟨rfl, h⟩
      · rcases Nat.lt_or_ge n (a + V) with h2 | h2
        · exact .inr (.inl ⟨rfl, h, h2⟩)
        · exact .inr (.inr ⟨rfl, h, h2⟩)
    · exact .inl rfl
  have hll : b = false → l.length = n - a := fun h => by rw [hd h, List.length_drop]; omega
  have hShut : ∀ h : rdS b l M = true, Hid (∀ q, RRef ((w1.drewN q).setCell ⟨g, 2, none⟩ (.bool true)) g hi n A c B bn1 ∧ w.grownBy ((w1.drewN q).setCell ⟨g, 2, none⟩ (.bool true)) (some g) ∧ bv1 = []) := fun h q =>
    ⟨(R0.drewN q).shut _ (hS h).2, only_setCell (grown_drewN G1 q) _ _, (hS h).1⟩
  obtain ⟨bb, hbb⟩ : ∃ bb, a + V = bb := ⟨_, rfl⟩
  rw [hbb] at kw hcase
  rcases hcase with rfl | ⟨rfl, h1⟩ | ⟨rfl, h1, h2⟩ | ⟨rfl, h1, h2⟩
  · have FIN := hShut (by simp [rdS])
    clear hShut hll hS hGo hM hd R0 hs hb kc hbb G1
    go_wp2
    go_quiet (fail)
    go_wp2
    go_ret
    obtain ⟨F1, F2, F3⟩ := FIN.out nq
    rw [F3]
    exact ⟨none, 0, rfl, Sl.nil_ _ _ _ _, F1, F2⟩
  · rw [if_pos h1] at hM
    have FIN := hShut (by simp [rdS, hM])
    have k1 : decide ((1000 : Int) < (V : Int)) = true := decide_eq_true (by omega)
    clear hShut hll hS hGo hM hd R0 hs hb hbb G1
    go_wp2
    go_quiet (fail)
    go_wp2
    go_ret
    obtain ⟨F1, F2, F3⟩ := FIN.out nq
    rw [F3]
    exact ⟨none, 0, rfl, Sl.nil_ _ _ _ _, F1, F2⟩
  · rw [if_neg (by omega)] at hM
    have FIN := hShut (by have := hll rfl; simp [rdS, hM]; omega)
    have k1 : decide ((1000 : Int) < (V : Int)) = false := decide_eq_false (by omega)
    have k2 : decide ((n : Int) < (bb : Int)) = true := decide_eq_true (by omega)
    clear hShut hll hS hGo hM hd R0 hs hb hbb G1
    go_wp2
    go_quiet (fail)
    go_wp2
    go_ret
    obtain ⟨F1, F2, F3⟩ := FIN.out nq
    rw [F3]
    exact ⟨none, 0, rfl, Sl.nil_ _ _ _ _, F1, F2⟩
  · rw [if_neg (by omega)] at hM
    subst hM
    have hdd := hd rfl
    obtain ⟨g1, g2, g3⟩ := hGo (by have := hll rfl; simp [rdS]; omega)
    have k1 : decide ((1000 : Int) < (M : Int)) = false := decide_eq_false (by omega)
    have k2 : decide ((n : Int) < (bb : Int)) = false := decide_eq_false (by omega)
    have kw2 : IntKind.i64.wrap ((bb : Int) - (M : Int)) = (a : Int) := by rw [IntKind.wrap_i64]; omega
    obtain ⟨i0, hi0, hz0, hz1', hz2⟩ := info_parts u8_info
    obtain ⟨A2, hA2, hcut⟩ := bytes_cut2 22 5 i0 hi0 Tryd.underlying22 hz1' A n c a bb M (c - a) (by omega) (by omega) (by omega) rfl
    have sT := hs.subB (k := a) (m := M) (c' := c - a) (A' := A2) (by omega) (by omega) (by omega) hA2
    rw [← hdd, ← g1] at sT
    have hbl : bv1.length = M := by rw [g1]; have := hll rfl; simp; omega
    have FIN : Hid (∀ q, RRef ((w1.drewN q).setCell ⟨g, 1, none⟩ (.int .i64 (bb : Int))) g hi n A c B bn1 ∧ w.grownBy ((w1.drewN q).setCell ⟨g, 1, none⟩ (.int .i64 (bb : Int))) (some g) ∧ Sl ((w1.drewN q).setCell ⟨g, 1, none⟩ (.int .i64 (bb : Int))) 0 hi 1 A2 M (c - a) (bv1.map bv)
        ∧ Blk ((w1.drewN q).setCell ⟨g, 1, none⟩ (.int .i64 (bb : Int))) g 111 #[.slice A n c, .int .i64 (bb : Int), .bool false]) := fun q =>
      ⟨RRef.on hlen (hs.drewN q) hg (hb.drewN q) bb (by omega) g2 (by rw [g3, hdd, List.drop_drop, hbb]), only_setCell (grown_drewN G1 q) _ _, (sT.drewN q).setCell (.inr hg) _, by simpa using (hb.drewN q).set_ 1 (.int .i64 (bb : Int))⟩
    have HBL := Lib.hid hbl
    clear hShut hll hS hGo hd R0 hs hb hbb G1 hdd g1 g2 g3 sT hA2 hbl
    go_wp2
    go_quiet (fail)
    go_wp2
    obtain ⟨F1, F2, F3, F4⟩ := FIN.out nq
    clear FIN x0 x1 x2 f1 f2
    generalize (w1.drewN nq).setCell ⟨g, 1, none⟩ (.int .i64 (bb : Int)) = W5 at F1 F2 F3 F4 ⊢
    obtain ⟨y0, y1, y2⟩ := F4.c3
    have G1 := Lib.hid F1
    have G2 := Lib.hid F2
    have G3 := Lib.hid F3
    clear F1 F2 F3 F4 k1 k2 kw kc
    go_quiet (fail)
    go_wp2
    go_ret
    rw [HBL.out]
    exact ⟨A2, c - a, rfl, G3.out.drewN _, G1.out.drewN _, grown_drewN G2.out _⟩
end Go.Proofs.YtciolppoanfiaaaDoor
