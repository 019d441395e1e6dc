import Derived.Test.YtciolppoanfiaaaDoorWAwake3
import Derived.Test.YtciolppoanfiaaaDoorXPack
namespace Go.Proofs.YtciolppoanfiaaaDoor
open Go.RowKit
theorem check_m (m : Msg) (w : World) (hm : IsMsg w m) {c : Nat} (hc : m.plain.check = c) : Calls Tryd.prog 23 #[m.v] w fun e w' => e = .returned (.int .i64 (c : Int)) ∧ Below w.heap.size w w' := by
  obtain ⟨k, f, t, te, ix, pr, co, ok, dA, dc, d, eA, ec, es⟩ := m
  obtain ⟨⟨dlo, dhi, hsd⟩, ⟨elo, ehi, hse⟩, hed⟩ := hm
  simp only at hsd hse
  have := check_any k f t te ix pr co ok dA d.length dc eA es.length ec _ _ es w hse (by have := hsd.cap; have := hsd.max; omega)
  rw [checkF_key] at this
  rw [← hc]
  exact this
theorem qcheck_m (m : Msg) (w : World) (hm : IsMsg w m) {c : Nat} (hc : m.plain.check = c) : Calls Tryd.prog 28 #[m.v] w fun e w' => e = .returned (.int .i64 (c : Int)) ∧ Below w.heap.size w w' := by
  obtain ⟨k, f, t, te, ix, pr, co, ok, dA, dc, d, eA, ec, es⟩ := m
  obtain ⟨⟨dlo, dhi, hsd⟩, ⟨elo, ehi, hse⟩, hed⟩ := hm
  simp only at hsd hse
  have := qcheck_any k f t te ix pr co ok dA d.length dc eA es.length ec _ _ es w hse (by have := hsd.cap; have := hsd.max; omega)
  rw [checkF_key] at this
  rw [← hc]
  exact this
set_option maxRecDepth 100000 in
set_option maxHeartbeats 4000000 in
theorem wireEncodes_any (w : World) {v : Value} {m : Msg} (hv : v = m.v) (hm : IsMsg w m) (hf : m.plain.fits) (hT : Tab w) (hT0 : 0 < w.heap.size) :
    Calls Tryd.prog 7 #[v] w fun e w' => e = .returned (.bool true) ∧ Below w.heap.size w w' := by
  subst hv
  obtain ⟨M, hM⟩ : ∃ M : Msg, M = m := ⟨_, rfl⟩
  rw [← hM] at hm hf
  obtain ⟨c, hc⟩ : ∃ c, M.plain.check = c := ⟨_, rfl⟩
  obtain ⟨l, hl⟩ : ∃ l, (if c = 0 then M.plain.enc else []) = l := ⟨_, rfl⟩
  obtain ⟨E, hE⟩ : ∃ E, M.plain.pkE = E := ⟨_, rfl⟩
  obtain ⟨L, hL⟩ : ∃ L, M.plain.pkL = L := ⟨_, rfl⟩
  have k1 := fun W (h : IsMsg W M) => check_m M W h hc
  have k2 := fun W (h : IsMsg W M) => encode_any M W h hc hl
  have k3 := fun W (h : IsMsg W M) => qencode_any M W h hf hc hl
  have k4 := fun W (h : IsMsg W M) (t : Tab W) (t0 : 0 < W.heap.size) => pack_any M W h t t0 hE hL
  have k5 := fun W (h : IsMsg W M) => qpack_any M W h hf hE hL
  have k6 := fun W (h : IsMsg W M) => qcheck_m M W h hc
  have HT : Hid (∀ W, Below w.heap.size w W → Tab W) := fun W hb => hT.below hb hT0
  obtain ⟨k, f, t, te, ix, pr, co, ok, dA, dc, d, eA, ec, es⟩ := m
  simp only [Msg.v, mcells]
  have vM : M.v = .agg #[.int .i64 k, .int .i64 f, .int .i64 t, .int .u64 (te : Int), .int .u64 (ix : Int), .int .u64 (pr : Int), .int .u64 (co : Int), .bool ok, .slice dA d.length dc, .slice eA es.length ec] := by rw [hM]; rfl
  rw [vM] at k1 k2 k3 k4 k5 k6
  clear hM vM hc hl hE hL hf hT
  generalize d.length = dn at k1 k2 k3 k4 k5 k6 ⊢
  generalize es.length = en at k1 k2 k3 k4 k5 k6 ⊢
  have K1 := Lib.hid k1
  have K2 := Lib.hid k2
  have K3 := Lib.hid k3
  have K4 := Lib.hid k4
  have K5 := Lib.hid k5
  have K6 := Lib.hid k6
  clear k1 k2 k3 k4 k5 k6
  obtain ⟨nl, hnl⟩ : ∃ n, l.length = n := ⟨_, rfl⟩
  obtain ⟨nL, hnL⟩ : ∃ n, L.length = n := ⟨_, rfl⟩
  rw [hnl] at K2 K3
  rw [hnL] at K4 K5
  clear hnl hnL
  have D0 := (Below.refl w.heap.size w).alloc (Nat.le_refl _) (.cells #[.int .i64 k, .int .i64 f, .int .i64 t, .int .u64 (te : Int), .int .u64 (ix : Int), .int .u64 (pr : Int), .int .u64 (co : Int), .bool ok, .slice dA dn dc, .slice eA en ec] 41)
  have Q0 := hm.alloc (.cells #[.int .i64 k, .int .i64 f, .int .i64 t, .int .u64 (te : Int), .int .u64 (ix : Int), .int .u64 (pr : Int), .int .u64 (co : Int), .bool ok, .slice dA dn dc, .slice eA en ec] 41)
  have B0 := Blk.new w 41 #[.int .i64 k, .int .i64 f, .int .i64 t, .int .u64 (te : Int), .int .u64 (ix : Int), .int .u64 (pr : Int), .int .u64 (co : Int), .bool ok, .slice dA dn dc, .slice eA en ec]
  clear hm
  go_enter Tryd.func7, Tryd.ntmps7
  go_wp2_with fail
  refine (awake3_any _).mono ?_
  rintro e w1 ⟨rfl, hb⟩
  have Q1 := Q0.after hb
  have B1 := B0.after hb
  have D1 := D0.trans (hb.mono D0.size)
  clear Q0 B0 D0 hb
  obtain ⟨x0, x1, x2, x3, x4, x5, x6, x7, x8, x9⟩ := B1.c10
  go_wp2_with fail
  refine (K1.out _ Q1).mono ?_
  rintro e w2 ⟨rfl, hb⟩
  have Q2 := Q1.after hb
  have B2 := B1.after hb
  have D2 := D1.trans (hb.mono D1.size)
  clear Q1 B1 D1 hb x0 x1 x2 x3 x4 x5 x6 x7 x8 x9
  obtain ⟨x0, x1, x2, x3, x4, x5, x6, x7, x8, x9⟩ := B2.c10
  go_wp2_with fail
  refine (K2.out _ Q2).mono ?_
  rintro e w3 ⟨A3, n3, rfl, u3, -, hb⟩
  have Q3 := Q2.after hb
  have B3 := B2.after hb
  have D3 := D2.trans (hb.mono D2.size)
  clear Q2 B2 D2 hb x0 x1 x2 x3 x4 x5 x6 x7 x8 x9
  obtain ⟨x0, x1, x2, x3, x4, x5, x6, x7, x8, x9⟩ := B3.c10
  go_wp2_with fail
  refine (K3.out _ Q3).mono ?_
  rintro e w4 ⟨A4, n4, rfl, u4, -, hb⟩
  have Q4 := Q3.after hb
  have B4 := B3.after hb
  have D4 := D3.trans (hb.mono D3.size)
  replace u3 := u3.after hb
  clear Q3 B3 D3 hb x0 x1 x2 x3 x4 x5 x6 x7 x8 x9
  obtain ⟨x0, x1, x2, x3, x4, x5, x6, x7, x8, x9⟩ := B4.c10
  go_wp2_with fail
  refine (K4.out _ Q4 (HT.out _ D4) (Nat.lt_of_lt_of_le hT0 D4.size)).mono ?_
  rintro e w5 ⟨A5, n5, rfl, o5, hb⟩
  have u5 := own_bytes o5
  clear o5
  have Q5 := Q4.after hb
  have B5 := B4.after hb
  have D5 := D4.trans (hb.mono D4.size)
  replace u3 := u3.after hb
  replace u4 := u4.after hb
  clear Q4 B4 D4 hb x0 x1 x2 x3 x4 x5 x6 x7 x8 x9
  obtain ⟨x0, x1, x2, x3, x4, x5, x6, x7, x8, x9⟩ := B5.c10
  go_wp2_with fail
  refine (K5.out _ Q5).mono ?_
  rintro e w6 ⟨A6, n6, rfl, o6, hb⟩
  have u6 := own_bytes o6
  clear o6
  have hcc : ((c : Int) == (c : Int)) = true := by simp
  have hEE : ((E : Int) == (E : Int)) = true := by simp
  have HEQ : Hid ((l == l) = true) := by show _ = _; simp
  have HEL : Hid ((L == L) = true) := by show _ = _; simp
  have Q6 := Q5.after hb
  have B6 := B5.after hb
  have D6 := D5.trans (hb.mono D5.size)
  replace u3 := u3.after hb
  replace u4 := u4.after hb
  replace u5 := u5.after hb
  clear Q5 B5 D5 hb x0 x1 x2 x3 x4 x5 x6 x7 x8 x9
  obtain ⟨x0, x1, x2, x3, x4, x5, x6, x7, x8, x9⟩ := B6.c10
  go_wp2_with fail
  refine (K6.out _ Q6).mono ?_
  rintro e w7 ⟨rfl, hb⟩
  replace u3 := u3.after hb
  replace u4 := u4.after hb
  replace u5 := u5.after hb
  replace u6 := u6.after hb
  have D7 := D6.trans (hb.mono D6.size)
  clear Q6 B6 D6 hb x0 x1 x2 x3 x4 x5 x6 x7 x8 x9
  have U3 := Lib.hid u3
  have U4 := Lib.hid u4
  have U5 := Lib.hid u5
  have U6 := Lib.hid u6
  clear u3 u4 u5 u6
  go_wp2_with fail
  refine (same_val (b := true) U3.out U4.out HEQ.out).mono ?_
  rintro e w8 ⟨rfl, hb⟩
  have D8 := D7.trans (hb.mono D7.size)
  go_wp2_with fail
  refine (same_val (b := true) (U5.out.after hb) (U6.out.after hb) HEL.out).mono ?_
  rintro e w9 ⟨rfl, hb9⟩
  go_wp2
  go_ret
  exact ⟨rfl, D8.trans (hb9.mono D8.size)⟩
end Go.Proofs.YtciolppoanfiaaaDoor
