/- The document's Encode. -/
import Derived.Test.YtciolppoanfiaaaDoorZRefRd
import Derived.Test.YtciolppoanfiaaaDoorXEnc2
namespace Go.Proofs.YtciolppoanfiaaaDoor
open Go.RowKit
theorem own_list (w : World) (g : Nat) (xs : List Value) (e : TypeId) (hg : w.heap.size = g) (hm : xs.length ≤ maxLen) : (w.alloc (.cells xs.toArray e)).ownsRow g e 1 (.slice (some ⟨g, 0, none⟩) xs.length xs.length) xs.length xs := by
  subst hg
  refine ⟨by simp, .inr ⟨w.heap.size, _, _, rfl, Nat.le_refl _, heap_alloc_new w _, Nat.le_refl _, hm, by simp, by simp⟩⟩
set_option maxRecDepth 100000 in
set_option maxHeartbeats 800000 in
theorem refBytes_any {v : Value} {l : List UInt8} (w : World) (ha : Bytes w v l) (h : l.length ≤ 1000) :
    Calls Tryd.prog 61 #[v] w fun e w' => ∃ u, e = .returned u ∧ w'.ownsRow w.heap.size 5 1 u (l.length + 2) ((bytesF l).map bv) ∧ Below w.heap.size w w' := by
  obtain ⟨i0, hi0, hz0, hz1, hz2⟩ := info_parts u8_info
  obtain ⟨lo, hi, A, c, rfl, hs⟩ := ha
  have hcap := hs.cap
  have hmax := hs.max
  obtain ⟨n, hn⟩ : ∃ n, l.length = n := ⟨_, rfl⟩
  rw [hn] at hs h hcap ⊢
  have HN := Lib.hid hn
  have HS := Lib.hid hs
  clear hn hs
  have q1 : decide ((1000 : Int) < (n : Int)) = false := decide_eq_false (by omega)
  have q2 : IntKind.u64.wrap (n : Int) = (n : Int) := by rw [IntKind.wrap_u64]; omega
  go_enter Tryd.func61, Tryd.ntmps61
  go_wp2_with fail
  refine (refNumber_any n 2 _ (by omega) (by omega)).mono ?_
  rintro e w1 ⟨u1, rfl, hown1, hb1⟩
  have hsz := hb1.size
  have hs1 := HS.out.after (by decide) hb1
  obtain ⟨A1, c1, rfl, -⟩ := own_sl hown1
  go_wp2_with (at_builtin; refine wpList_app _ rfl (.tmp 13) (.tmp 14) 22 rfl w.heap.size 5 i0 _ 1 1 Tryd.underlying22 hi0 hz0 hz1 hz2 rfl (by omega) (.slice A1 2 c1) 2 _ rfl hown1 _ _ A n c (l.map bv) rfl hs1 (bv_one l) (by simp only [maxLen]; omega) (by omega) (by omega) ?_; intro v2 w2 hown2 hg2 hat2)
  go_ret
  refine ⟨v2, rfl, ?_, hb1.grown hg2 hsz (fun q e => (hown1.lt q e).1)⟩
  have e : (bytesF l).map bv = (num n 2).map bv ++ l.map bv := by simp [bytesF, HN.out]
  rw [e, show n + 2 = 2 + n by omega]
  exact hown2
theorem num1 (n : Nat) (h : n < 256) : (num n 1).map bv = [.int .u8 (n : Int)] := by
  simp only [num, List.nil_append, List.map_cons, List.map_nil, bv]
  rw [UInt8.toNat_ofNat']
  simp
  omega
theorem nums4 (a b c d : Nat) (ha : a < 256) (hb : b < 256) (hc : c < 256) (hd : d < 256) : (nums [a, b, c, d] 1).map bv = [.int .u8 (a : Int), .int .u8 (b : Int), .int .u8 (c : Int), .int .u8 (d : Int)] := by
  have e : nums [a, b, c, d] 1 = num a 1 ++ (num b 1 ++ (num c 1 ++ num d 1)) := by simp [nums]
  rw [e]
  simp only [List.map_append, num1 a ha, num1 b hb, num1 c hc, num1 d hd]
  rfl
/-- what is written so far -/
structure QE (w : World) (cs : Array Value) (B : Nat) (wr : World) (v : Value) (L : List UInt8) : Prop where
  mb : Blk wr w.heap.size 41 cs
  own : wr.ownsRow (w.heap.size + 1) 5 1 v L.length (L.map bv)
  bel : Below w.heap.size w wr
  len : L.length ≤ B
section
variable {w wr w1 w2 : World} {cs : Array Value} {B : Nat} {v : Value} {L : List UInt8}
theorem QE.after (h : QE w cs B wr v L) (hb : Below wr.heap.size wr w1) : QE w cs B w1 v L := ⟨h.mb.after hb, own_after h.own hb, h.bel.trans (hb.mono h.bel.size), h.len⟩
theorem QE.alloc (h : QE w cs B wr v L) (o : Obj) : QE w cs B (wr.alloc o) v L := ⟨h.mb.alloc o, h.own.alloc o, h.bel.alloc h.bel.size o, h.len⟩
theorem QE.app (h : QE w cs B wr v L) {v' : Value} {m : Nat} {news : List UInt8} {xs : List Value} (hx : xs = L.map bv ++ news.map bv) (hn : news.length = m) (ho : w2.ownsRow (w.heap.size + 1) 5 1 v' (L.length + m) xs) (hg : wr.grownBy w2 v.ownBlock) : QE w cs (B + m) w2 v' (L ++ news) := by
  subst hn
  refine ⟨h.mb.grown hg (own_off h.own (Nat.lt_succ_self _)), ?_, h.bel.grown hg h.bel.size (fun q e => by have := (h.own.lt q e).1; omega), by have := h.len; simp; omega⟩
  rw [List.length_append, List.map_append, ← hx]
  exact ho
theorem QE.weak (h : QE w cs B wr v L) {B' : Nat} (hB : B ≤ B') : QE w cs B' wr v L := ⟨h.mb, h.own, h.bel, Nat.le_trans h.len hB⟩
theorem QE.form (h : QE w cs B wr v L) : ∃ A c, v = .slice A L.length c := by
  obtain ⟨A, c, e, -⟩ := own_sl h.own
  exact ⟨A, c, e⟩
end
set_option maxRecDepth 100000 in
set_option maxHeartbeats 4000000 in
theorem qencode_okt (kn fn tn te ix pr co : Nat) (dA : Option Addr) (dc : Nat) (d : List UInt8) (eA : Option Addr) (ec : Nat) (es : List Ent) (w : World)
    (hm : IsMsg w ⟨(kn : Int), (fn : Int), (tn : Int), te, ix, pr, co, true, dA, dc, d, eA, ec, es⟩) (h0 : checkF (kn : Int) (fn : Int) (tn : Int) d.length es = 0)
    (hu : te < 18446744073709551616 ∧ ix < 18446744073709551616 ∧ pr < 18446744073709551616 ∧ co < 18446744073709551616 ∧ ∀ e ∈ es, e.t < 18446744073709551616) :
    Calls Tryd.prog 25 #[.agg #[.int .i64 (kn : Int), .int .i64 (fn : Int), .int .i64 (tn : Int), .int .u64 (te : Int), .int .u64 (ix : Int), .int .u64 (pr : Int), .int .u64 (co : Int), .bool true, .slice dA d.length dc, .slice eA es.length ec]] w fun e w' =>
      ∃ v n, e = .returned (.tuple #[v, .int .i64 0]) ∧ w'.ownsRow w.heap.size 5 1 v n ((PMsg.enc ⟨(kn : Int), (fn : Int), (tn : Int), te, ix, pr, co, true, d, es.map Ent.key⟩).map bv) ∧ Below w.heap.size w w' := by
  obtain ⟨i0, hi0, hz0, hz1, hz2⟩ := info_parts u8_info
  have hR := right_of h0
  obtain ⟨⟨dlo, dhi, hsd⟩, ⟨elo, ehi, hse⟩, hed⟩ := hm
  simp only at hsd hse hed
  obtain ⟨dn, hdn⟩ : ∃ n, d.length = n := ⟨_, rfl⟩
  obtain ⟨n, hn⟩ : ∃ n, es.length = n := ⟨_, rfl⟩
  rw [hdn] at h0 hsd ⊢
  rw [hn] at hse ⊢
  have hd7 := hR.d
  have hn8 := hR.n
  rw [hdn] at hd7
  rw [hn] at hn8
  have hk2 := hR.k2
  have hf2 := hR.f2
  have ht2 := hR.t2
  obtain ⟨hu1, hu2, hu3, hu4, hu5⟩ := hu
  have HU5 := Lib.hid hu5
  have HDN := Lib.hid hdn
  have HN := Lib.hid hn
  have HR := Lib.hid hR
  clear hdn hn hR hu5
  have hcapd := hsd.cap
  have hmaxd := hsd.max
  have hcape := hse.cap
  have hmaxe := hse.max
  have hchk := qcheck_any (kn : Int) (fn : Int) (tn : Int) te ix pr co true dA dn dc eA n ec elo ehi es _ (hse.alloc (by decide) (.cells #[.int .i64 (kn : Int), .int .i64 (fn : Int), .int .i64 (tn : Int), .int .u64 (te : Int), .int .u64 (ix : Int), .int .u64 (pr : Int), .int .u64 (co : Int), .bool true, .slice dA dn dc, .slice eA n ec] 41)) (by omega)
  rw [h0] at hchk
  have HC := Lib.hid hchk
  clear hchk h0
  go_enter Tryd.func25, Tryd.ntmps25
  go_wp2_with fail
  refine HC.out.mono ?_
  rintro e w1 ⟨rfl, hb1⟩
  have MB := (Blk.new w 41 #[.int .i64 (kn : Int), .int .i64 (fn : Int), .int .i64 (tn : Int), .int .u64 (te : Int), .int .u64 (ix : Int), .int .u64 (pr : Int), .int .u64 (co : Int), .bool true, .slice dA dn dc, .slice eA n ec]).after hb1
  have D1 := below_boxed hb1
  have hsw : Sl w 0 w.heap.size 3 eA n ec (ecells es) := (hse.now (by decide)).wide (Nat.zero_le _) (Nat.le_refl _)
  have HSE := Lib.hid hsw
  have hdw : Sl w 0 w.heap.size 1 dA dn dc (d.map bv) := (hsd.now (by decide)).wide (Nat.zero_le _) (Nat.le_refl _)
  have HSD := Lib.hid hdw
  have HED : Hid (∀ e ∈ es, BytesIn w 0 w.heap.size (.slice e.A e.l.length e.c) e.l) := fun e he => (hed e he).now
  clear hb1 HC hse hsd hed hsw hdw
  obtain ⟨x0, x1, x2, x3, x4, x5, x6, x7, x8, x9⟩ := MB.c10
  have w1k : IntKind.u8.wrap (kn : Int) = (kn : Int) := by rw [IntKind.wrap_u8']; omega
  have w1f : IntKind.u8.wrap (fn : Int) = (fn : Int) := by rw [IntKind.wrap_u8']; omega
  have w1t : IntKind.u8.wrap (tn : Int) = (tn : Int) := by rw [IntKind.wrap_u8']; omega
  have L0 : (nums [kn, fn, tn, 1] 1).length = 4 := by rw [nums_len]; rfl
  have M0 := nums4 kn fn tn 1 (by omega) (by omega) (by omega) (by omega)
  have hsz1 := MB.lt
  have Q0 : QE w #[.int .i64 (kn : Int), .int .i64 (fn : Int), .int .i64 (tn : Int), .int .u64 (te : Int), .int .u64 (ix : Int), .int .u64 (pr : Int), .int .u64 (co : Int), .bool true, .slice dA dn dc, .slice eA n ec] 4 (w1.alloc (.cells #[.int .u8 (kn : Int), .int .u8 (fn : Int), .int .u8 (tn : Int), .int .u8 1] 5)) (.slice (some ⟨w1.heap.size, 0, none⟩) 4 4) (nums [kn, fn, tn, 1] 1) := by
    refine ⟨MB.alloc _, ?_, D1.alloc D1.size _, by omega⟩
    rw [M0, L0]
    exact own_wide (own_list w1 w1.heap.size [.int .u8 (kn : Int), .int .u8 (fn : Int), .int .u8 (tn : Int), .int .u8 1] 5 rfl (by simp [maxLen])) (by omega)
  clear MB D1 M0
  obtain ⟨l0, hl0⟩ : ∃ l, nums [kn, fn, tn, 1] 1 = l := ⟨_, rfl⟩
  rw [hl0] at Q0 L0
  have HL0 := Lib.hid hl0
  clear hl0
  have eL0 := Lib.hid L0
  have R0 := Q0.own
  rw [L0] at R0
  clear L0
  go_wp2_with fail
  refine (refNumber_any te 8 _ (by omega) (by omega)).mono ?_
  rintro e a0 ⟨u0, rfl, o0, b0⟩
  obtain ⟨A0, c0, rfl, s0⟩ := own_sl o0
  have P0 := Q0.after b0
  replace R0 := own_after R0 b0
  have z0 := P0.mb.lt
  clear Q0 x0 x1 x2 x3 x4 x5 x6 x7 x8 x9
  clear o0 b0
  go_wp2_with (at_builtin; refine wpList_app _ rfl (.tmp 26) (.tmp 29) 22 rfl (w.heap.size + 1) 5 i0 _ 1 1 Tryd.underlying22 hi0 hz0 hz1 hz2 rfl (by omega) (.slice (some ⟨w1.heap.size, 0, none⟩) 4 4) 4 _ rfl R0 _ _ A0 8 c0 _ rfl s0 (bv_one _) (by simp only [maxLen]; omega) (by omega) (by first | omega | (simp only [alloc_size]; omega)) ?_; intro v1 d1 p1 g1 _; have Q1 : QE w #[.int .i64 (kn : Int), .int .i64 (fn : Int), .int .i64 (tn : Int), .int .u64 (te : Int), .int .u64 (ix : Int), .int .u64 (pr : Int), .int .u64 (co : Int), .bool true, .slice dA dn dc, .slice eA n ec] (4 + 8) d1 v1 (l0 ++ num te 8) := P0.app rfl (num_len _ _) (by rw [eL0.out]; exact p1) g1; obtain ⟨x0, x1, x2, x3, x4, x5, x6, x7, x8, x9⟩ := Q1.mb.c10; obtain ⟨l1, hl1⟩ : ∃ l, l0 ++ num te 8 = l := ⟨_, rfl⟩; rw [hl1] at Q1; have HL1 := Lib.hid hl1; obtain ⟨E1, f1, hv1⟩ := Q1.form; have hm1 := Q1.len; obtain ⟨m1, he1⟩ : ∃ m, l1.length = m := ⟨_, rfl⟩; rw [he1] at hv1 hm1; subst hv1; have eL1 := Lib.hid he1; have R1 := Q1.own; rw [he1] at R1; have zz1 := Q1.mb.lt; clear P0 R0 p1 g1 hl1 he1)
  go_wp2_with fail
  refine (refNumber_any ix 8 _ (by omega) (by omega)).mono ?_
  rintro e a1 ⟨u1, rfl, o1, b1⟩
  obtain ⟨A1, c1, rfl, s1⟩ := own_sl o1
  have P1 := Q1.after b1
  replace R1 := own_after R1 b1
  have z1 := P1.mb.lt
  clear Q1 x0 x1 x2 x3 x4 x5 x6 x7 x8 x9
  clear o1 b1
  go_wp2_with (at_builtin; refine wpList_app _ rfl (.tmp 31) (.tmp 34) 22 rfl (w.heap.size + 1) 5 i0 _ 1 1 Tryd.underlying22 hi0 hz0 hz1 hz2 rfl (by omega) (.slice E1 m1 f1) m1 _ rfl R1 _ _ A1 8 c1 _ rfl s1 (bv_one _) (by simp only [maxLen]; omega) (by omega) (by first | omega | (simp only [alloc_size]; omega)) ?_; intro v2 d2 p2 g2 _; have Q2 : QE w #[.int .i64 (kn : Int), .int .i64 (fn : Int), .int .i64 (tn : Int), .int .u64 (te : Int), .int .u64 (ix : Int), .int .u64 (pr : Int), .int .u64 (co : Int), .bool true, .slice dA dn dc, .slice eA n ec] (4 + 8 + 8) d2 v2 (l1 ++ num ix 8) := P1.app rfl (num_len _ _) (by rw [eL1.out]; exact p2) g2; obtain ⟨x0, x1, x2, x3, x4, x5, x6, x7, x8, x9⟩ := Q2.mb.c10; obtain ⟨l2, hl2⟩ : ∃ l, l1 ++ num ix 8 = l := ⟨_, rfl⟩; rw [hl2] at Q2; have HL2 := Lib.hid hl2; obtain ⟨E2, f2, hv2⟩ := Q2.form; have hm2 := Q2.len; obtain ⟨m2, he2⟩ : ∃ m, l2.length = m := ⟨_, rfl⟩; rw [he2] at hv2 hm2; subst hv2; have eL2 := Lib.hid he2; have R2 := Q2.own; rw [he2] at R2; have zz2 := Q2.mb.lt; clear P1 R1 p2 g2 hl2 he2)
  go_wp2_with fail
  refine (refNumber_any pr 8 _ (by omega) (by omega)).mono ?_
  rintro e a2 ⟨u2, rfl, o2, b2⟩
  obtain ⟨A2, c2, rfl, s2⟩ := own_sl o2
  have P2 := Q2.after b2
  replace R2 := own_after R2 b2
  have z2 := P2.mb.lt
  clear Q2 x0 x1 x2 x3 x4 x5 x6 x7 x8 x9
  clear o2 b2
  go_wp2_with (at_builtin; refine wpList_app _ rfl (.tmp 36) (.tmp 39) 22 rfl (w.heap.size + 1) 5 i0 _ 1 1 Tryd.underlying22 hi0 hz0 hz1 hz2 rfl (by omega) (.slice E2 m2 f2) m2 _ rfl R2 _ _ A2 8 c2 _ rfl s2 (bv_one _) (by simp only [maxLen]; omega) (by omega) (by first | omega | (simp only [alloc_size]; omega)) ?_; intro v3 d3 p3 g3 _; have Q3 : QE w #[.int .i64 (kn : Int), .int .i64 (fn : Int), .int .i64 (tn : Int), .int .u64 (te : Int), .int .u64 (ix : Int), .int .u64 (pr : Int), .int .u64 (co : Int), .bool true, .slice dA dn dc, .slice eA n ec] (4 + 8 + 8 + 8) d3 v3 (l2 ++ num pr 8) := P2.app rfl (num_len _ _) (by rw [eL2.out]; exact p3) g3; obtain ⟨x0, x1, x2, x3, x4, x5, x6, x7, x8, x9⟩ := Q3.mb.c10; obtain ⟨l3, hl3⟩ : ∃ l, l2 ++ num pr 8 = l := ⟨_, rfl⟩; rw [hl3] at Q3; have HL3 := Lib.hid hl3; obtain ⟨E3, f3, hv3⟩ := Q3.form; have hm3 := Q3.len; obtain ⟨m3, he3⟩ : ∃ m, l3.length = m := ⟨_, rfl⟩; rw [he3] at hv3 hm3; subst hv3; have eL3 := Lib.hid he3; have R3 := Q3.own; rw [he3] at R3; have zz3 := Q3.mb.lt; clear P2 R2 p3 g3 hl3 he3)
  go_wp2_with fail
  refine (refNumber_any co 8 _ (by omega) (by omega)).mono ?_
  rintro e a3 ⟨u3, rfl, o3, b3⟩
  obtain ⟨A3, c3, rfl, s3⟩ := own_sl o3
  have P3 := Q3.after b3
  replace R3 := own_after R3 b3
  have z3 := P3.mb.lt
  clear Q3 x0 x1 x2 x3 x4 x5 x6 x7 x8 x9
  clear o3 b3
  go_wp2_with (at_builtin; refine wpList_app _ rfl (.tmp 41) (.tmp 44) 22 rfl (w.heap.size + 1) 5 i0 _ 1 1 Tryd.underlying22 hi0 hz0 hz1 hz2 rfl (by omega) (.slice E3 m3 f3) m3 _ rfl R3 _ _ A3 8 c3 _ rfl s3 (bv_one _) (by simp only [maxLen]; omega) (by omega) (by first | omega | (simp only [alloc_size]; omega)) ?_; intro v4 d4 p4 g4 _; have Q4 : QE w #[.int .i64 (kn : Int), .int .i64 (fn : Int), .int .i64 (tn : Int), .int .u64 (te : Int), .int .u64 (ix : Int), .int .u64 (pr : Int), .int .u64 (co : Int), .bool true, .slice dA dn dc, .slice eA n ec] (4 + 8 + 8 + 8 + 8) d4 v4 (l3 ++ num co 8) := P3.app rfl (num_len _ _) (by rw [eL3.out]; exact p4) g4; obtain ⟨x0, x1, x2, x3, x4, x5, x6, x7, x8, x9⟩ := Q4.mb.c10; obtain ⟨l4, hl4⟩ : ∃ l, l3 ++ num co 8 = l := ⟨_, rfl⟩; rw [hl4] at Q4; have HL4 := Lib.hid hl4; obtain ⟨E4, f4, hv4⟩ := Q4.form; have hm4 := Q4.len; obtain ⟨m4, he4⟩ : ∃ m, l4.length = m := ⟨_, rfl⟩; rw [he4] at hv4 hm4; subst hv4; have eL4 := Lib.hid he4; have R4 := Q4.own; rw [he4] at R4; have zz4 := Q4.mb.lt; clear P3 R3 p4 g4 hl4 he4)
  have hdb : Bytes d4 (.slice dA dn dc) d := (HSD.out.below Q4.bel (Nat.le_refl _)).bytes
  go_wp2_with fail
  refine (refBytes_any _ hdb (by rw [HDN.out]; omega)).mono ?_
  rintro e a4 ⟨u4, rfl, o4, b4⟩
  rw [HDN.out] at o4
  obtain ⟨A4, c4, rfl, s4⟩ := own_sl o4
  have P4 := Q4.after b4
  replace R4 := own_after R4 b4
  have z4 := P4.mb.lt
  clear Q4 x0 x1 x2 x3 x4 x5 x6 x7 x8 x9
  clear o4 b4 hdb
  have wn8 : IntKind.u8.wrap (n : Int) = (n : Int) := by rw [IntKind.wrap_u8']; omega
  go_wp2_with (first | (at_builtin; have _g := P5; refine wpList_app _ rfl (.tmp 51) (.tmp 56) 22 rfl (w.heap.size + 1) 5 i0 _ 1 1 Tryd.underlying22 hi0 hz0 hz1 hz2 rfl (by omega) (.slice E5 m5 f5) m5 _ rfl (R5.alloc _) d5.heap.size (d5.heap.size + 1) (some ⟨d5.heap.size, 0, none⟩) 1 1 [.int .u8 (n : Int)] rfl (sl_one _ _ _) (by intro u hu; rw [List.mem_singleton.1 hu]; rfl) (by simp only [maxLen]; omega) (by omega) (by first | omega | (simp only [alloc_size]; omega)) ?_; intro v6 d6 p6 g6 _; have Q6 : QE w #[.int .i64 (kn : Int), .int .i64 (fn : Int), .int .i64 (tn : Int), .int .u64 (te : Int), .int .u64 (ix : Int), .int .u64 (pr : Int), .int .u64 (co : Int), .bool true, .slice dA dn dc, .slice eA n ec] (4 + 8 + 8 + 8 + 8 + (dn + 2) + 1) d6 v6 (l5 ++ num n 1) := P5.app (by rw [num1 n (by omega)]) (num_len _ _) (by rw [eL5.out]; exact p6) g6; obtain ⟨x0, x1, x2, x3, x4, x5, x6, x7, x8, x9⟩ := Q6.mb.c10; obtain ⟨l6, hl6⟩ : ∃ l, l5 ++ num n 1 = l := ⟨_, rfl⟩; rw [hl6] at Q6; have HL6 := Lib.hid hl6; obtain ⟨E6, f6, hv6⟩ := Q6.form; have hm6 := Q6.len; obtain ⟨m6, he6⟩ : ∃ m, l6.length = m := ⟨_, rfl⟩; rw [he6] at hv6 hm6; subst hv6; have eL6 := Lib.hid he6; have R6 := Q6.own; rw [he6] at R6; have zz6 := Q6.mb.lt; clear P5 R5 p6 g6 hl6 he6) | (at_builtin; refine wpList_app _ rfl (.tmp 46) (.tmp 49) 22 rfl (w.heap.size + 1) 5 i0 _ 1 1 Tryd.underlying22 hi0 hz0 hz1 hz2 rfl (by omega) (.slice E4 m4 f4) m4 _ rfl R4 _ _ A4 (dn + 2) c4 _ rfl s4 (bv_one _) (by simp only [maxLen]; omega) (by omega) (by first | omega | (simp only [alloc_size]; omega)) ?_; intro v5 d5 p5 g5 _; have Q5 : QE w #[.int .i64 (kn : Int), .int .i64 (fn : Int), .int .i64 (tn : Int), .int .u64 (te : Int), .int .u64 (ix : Int), .int .u64 (pr : Int), .int .u64 (co : Int), .bool true, .slice dA dn dc, .slice eA n ec] (4 + 8 + 8 + 8 + 8 + (dn + 2)) d5 v5 (l4 ++ bytesF d) := P4.app rfl (by rw [bytesF_len, HDN.out]) (by rw [eL4.out]; exact p5) g5; obtain ⟨x0, x1, x2, x3, x4, x5, x6, x7, x8, x9⟩ := Q5.mb.c10; obtain ⟨l5, hl5⟩ : ∃ l, l4 ++ bytesF d = l := ⟨_, rfl⟩; rw [hl5] at Q5; have HL5 := Lib.hid hl5; obtain ⟨E5, f5, hv5⟩ := Q5.form; have hm5 := Q5.len; obtain ⟨m5, he5⟩ : ∃ m, l5.length = m := ⟨_, rfl⟩; rw [he5] at hv5 hm5; subst hv5; have eL5 := Lib.hid he5; have R5 := Q5.own; rw [he5] at R5; have zz5 := Q5.mb.lt; clear P4 R4 p5 g5 hl5 he5; have P5 := Q5.alloc (.cells #[.int .u8 (n : Int)] 5)))
  have hm6' : 4 + 8 + 8 + 8 + 8 + (dn + 2) + 1 ≤ 800 := by omega
  go_loopw [6, 7] (fun v i wr => ∃ k : Nat, k ≤ n ∧ i = .int .i64 k ∧ QE w #[.int .i64 (kn : Int), .int .i64 (fn : Int), .int .i64 (tn : Int), .int .u64 (te : Int), .int .u64 (ix : Int), .int .u64 (pr : Int), .int .u64 (co : Int), .bool true, .slice dA dn dc, .slice eA n ec] (800 + k * 35) wr v (l6 ++ encKs ((es.map Ent.key).take k))) (fun _ i _ => n - (intOf i).toNat)
  case atStart => exact ⟨0, Nat.zero_le _, rfl, by have q := Q6.weak hm6'; simpa [encKs] using q⟩
  case round =>
    clear x0 x1 x2 x3 x4 x5 x6 x7 x8 x9 Q6 Q5
    obtain ⟨k, hk, rfl, Q7⟩ := hrel
    obtain ⟨x0, x1, x2, x3, x4, x5, x6, x7, x8, x9⟩ := Q7.mb.c10
    obtain ⟨l7, hl7⟩ : ∃ l, l6 ++ encKs ((es.map Ent.key).take k) = l := ⟨_, rfl⟩
    rw [hl7] at Q7
    have HL7 := Lib.hid hl7
    obtain ⟨E7, f7, hv7⟩ := Q7.form
    have hm7 := Q7.len
    obtain ⟨m7, he7⟩ : ∃ m, l7.length = m := ⟨_, rfl⟩
    rw [he7] at hv7 hm7
    subst hv7
    have eL7 := Lib.hid he7
    have R7 := Q7.own
    rw [he7] at R7
    have zz7 := Q7.mb.lt
    clear hl7 he7
    by_cases hlt : k < n
    · obtain ⟨ad, ⟨et, ek, eA', ec', el⟩, rfl, he, c0, c1, c2⟩ := HSE.out.ent hlt
      simp only at c0 c1 c2
      have hmem := List.mem_of_getElem? he
      have het := HU5.out _ hmem
      have hen := HR.out.l _ hmem
      have hek1 := HR.out.e1 _ hmem
      have hek2 := HR.out.e2 _ hmem
      have hbd := HED.out _ hmem
      simp only at het hen hek1 hek2 hbd
      obtain ⟨en, hel⟩ : ∃ en, el.length = en := ⟨_, rfl⟩
      rw [hel] at hen c2 hbd
      have HEL := Lib.hid hel
      have HBD := Lib.hid hbd
      have hbl : (ad.add (k * 3)).block < w.heap.size := World.block_lt_of_cell? w _ c0
      have C1 := Lib.hid c1
      have C2 := Lib.hid c2
      have t0 := (Q7.bel.cell hbl).trans c0
      have HE := Lib.hid he
      have wk8 : IntKind.u8.wrap ek = ek := by rw [IntKind.wrap_u8']; omega
      obtain ⟨ekn, hekn⟩ : ∃ z : Nat, ek = (z : Int) := ⟨ek.toNat, by omega⟩
      clear hel hbd c0 c1 c2 he hmem
      subst hekn
      go_wp2_with fail
      refine (refNumber_any et 8 _ (by omega) (by omega)).mono ?_
      rintro e a7 ⟨u7, rfl, o7, b7⟩
      obtain ⟨A7, c7, rfl, s7⟩ := own_sl o7
      have P7 := Q7.after b7
      replace R7 := own_after R7 b7
      have z7 := P7.mb.lt
      clear Q7 x0 x1 x2 x3 x4 x5 x6 x7 x8 x9
      clear o7 b7 t0
      go_wp2_with (first | (at_builtin; have _g := P8; clear t1; refine wpList_app _ rfl (.tmp 74) (.tmp 82) 22 rfl (w.heap.size + 1) 5 i0 _ 1 1 Tryd.underlying22 hi0 hz0 hz1 hz2 rfl (by omega) (.slice E8 m8 f8) m8 _ rfl (R8.alloc _) d8.heap.size (d8.heap.size + 1) (some ⟨d8.heap.size, 0, none⟩) 1 1 [.int .u8 (ekn : Int)] rfl (sl_one _ _ _) (by intro u hu; rw [List.mem_singleton.1 hu]; rfl) (by simp only [maxLen]; omega) (by omega) (by first | omega | (simp only [alloc_size]; omega)) ?_; intro v9 d9 p9 g9 _; have Q9 : QE w #[.int .i64 (kn : Int), .int .i64 (fn : Int), .int .i64 (tn : Int), .int .u64 (te : Int), .int .u64 (ix : Int), .int .u64 (pr : Int), .int .u64 (co : Int), .bool true, .slice dA dn dc, .slice (some ad) n ec] (800 + k * 35 + 8 + 1) d9 v9 (l8 ++ num ekn 1) := P8.app (by rw [num1 ekn (by omega)]) (num_len _ _) (by rw [eL8.out]; exact p9) g9; obtain ⟨x0, x1, x2, x3, x4, x5, x6, x7, x8, x9⟩ := Q9.mb.c10; obtain ⟨l9, hl9⟩ : ∃ l, l8 ++ num ekn 1 = l := ⟨_, rfl⟩; rw [hl9] at Q9; have HL9 := Lib.hid hl9; obtain ⟨E9, f9, hv9⟩ := Q9.form; have hm9 := Q9.len; obtain ⟨m9, he9⟩ : ∃ m, l9.length = m := ⟨_, rfl⟩; rw [he9] at hv9 hm9; subst hv9; have eL9 := Lib.hid he9; have R9 := Q9.own; rw [he9] at R9; have zz9 := Q9.mb.lt; clear P8 R8 p9 g9 hl9 he9; have t2 := (Q9.bel.cell (p := ⟨(ad.add (k * 3)).block, (ad.add (k * 3)).off + 2, none⟩) hbl).trans C2.out) | (at_builtin; refine wpList_app _ rfl (.tmp 65) (.tmp 72) 22 rfl (w.heap.size + 1) 5 i0 _ 1 1 Tryd.underlying22 hi0 hz0 hz1 hz2 rfl (by omega) (.slice E7 m7 f7) m7 _ rfl R7 _ _ A7 8 c7 _ rfl s7 (bv_one _) (by simp only [maxLen]; omega) (by omega) (by first | omega | (simp only [alloc_size]; omega)) ?_; intro v8 d8 p8 g8 _; have Q8 : QE w #[.int .i64 (kn : Int), .int .i64 (fn : Int), .int .i64 (tn : Int), .int .u64 (te : Int), .int .u64 (ix : Int), .int .u64 (pr : Int), .int .u64 (co : Int), .bool true, .slice dA dn dc, .slice (some ad) n ec] (800 + k * 35 + 8) d8 v8 (l7 ++ num et 8) := P7.app rfl (num_len _ _) (by rw [eL7.out]; exact p8) g8; obtain ⟨x0, x1, x2, x3, x4, x5, x6, x7, x8, x9⟩ := Q8.mb.c10; obtain ⟨l8, hl8⟩ : ∃ l, l7 ++ num et 8 = l := ⟨_, rfl⟩; rw [hl8] at Q8; have HL8 := Lib.hid hl8; obtain ⟨E8, f8, hv8⟩ := Q8.form; have hm8 := Q8.len; obtain ⟨m8, he8⟩ : ∃ m, l8.length = m := ⟨_, rfl⟩; rw [he8] at hv8 hm8; subst hv8; have eL8 := Lib.hid he8; have R8 := Q8.own; rw [he8] at R8; have zz8 := Q8.mb.lt; clear P7 R7 p8 g8 hl8 he8; have P8 := Q8.alloc (.cells #[.int .u8 (ekn : Int)] 5); have t1 := (Q8.bel.cell (p := ⟨(ad.add (k * 3)).block, (ad.add (k * 3)).off + 1, none⟩) hbl).trans C1.out))
      have hdb : Bytes d9 (.slice eA' en ec') el := (HBD.out.below Q9.bel (Nat.le_refl _)).bytes
      refine (refBytes_any _ hdb (by rw [HEL.out]; omega)).mono ?_
      rintro e a9 ⟨u9, rfl, o9, b9⟩
      rw [HEL.out] at o9
      obtain ⟨A9, c9, rfl, s9⟩ := own_sl o9
      have P9 := Q9.after b9
      replace R9 := own_after R9 b9
      have z9 := P9.mb.lt
      clear Q9 x0 x1 x2 x3 x4 x5 x6 x7 x8 x9
      clear o9 b9 hdb t2
      go_wp2_with (at_builtin; refine wpList_app _ rfl (.tmp 84) (.tmp 91) 22 rfl (w.heap.size + 1) 5 i0 _ 1 1 Tryd.underlying22 hi0 hz0 hz1 hz2 rfl (by omega) (.slice E9 m9 f9) m9 _ rfl R9 _ _ A9 (en + 2) c9 _ rfl s9 (bv_one _) (by simp only [maxLen]; omega) (by omega) (by first | omega | (simp only [alloc_size]; omega)) ?_; intro v10 d10 p10 g10 _; have Q10 : QE w #[.int .i64 (kn : Int), .int .i64 (fn : Int), .int .i64 (tn : Int), .int .u64 (te : Int), .int .u64 (ix : Int), .int .u64 (pr : Int), .int .u64 (co : Int), .bool true, .slice dA dn dc, .slice (some ad) n ec] (800 + k * 35 + 8 + 1 + (en + 2)) d10 v10 (l9 ++ bytesF el) := P9.app rfl (by rw [bytesF_len, HEL.out]) (by rw [eL9.out]; exact p10) g10; obtain ⟨x0, x1, x2, x3, x4, x5, x6, x7, x8, x9⟩ := Q10.mb.c10; obtain ⟨l10, hl10⟩ : ∃ l, l9 ++ bytesF el = l := ⟨_, rfl⟩; rw [hl10] at Q10; have HL10 := Lib.hid hl10; obtain ⟨E10, f10, hv10⟩ := Q10.form; have hm10 := Q10.len; obtain ⟨m10, he10⟩ : ∃ m, l10.length = m := ⟨_, rfl⟩; rw [he10] at hv10 hm10; subst hv10; have eL10 := Lib.hid he10; have R10 := Q10.own; rw [he10] at R10; have zz10 := Q10.mb.lt; clear P9 R9 p10 g10 hl10 he10)
      go_roundw
      case rel =>
        refine ⟨k + 1, by omega, by go_num, ?_⟩
        have hk2 : ((es.map Ent.key))[k]? = some (et, (ekn : Int), el) := by rw [List.getElem?_map, HE.out]; rfl
        have e1 : l6 ++ encKs ((es.map Ent.key).take (k + 1)) = l10 := by
          rw [encKs_snoc _ _ _ hk2, ← HL10.out, ← HL9.out, ← HL8.out, ← HL7.out]
          simp [encK]
        rw [e1]
        exact Q10.weak (by omega)
      case measure => simp [intOf]; omega
    · have hkn : k = n := by omega
      subst hkn
      go_wp2
      go_ret2
      refine ⟨_, m7, rfl, ?_, Q7.bel⟩
      have e1 : PMsg.enc ⟨(kn : Int), (fn : Int), (tn : Int), te, ix, pr, co, true, d, es.map Ent.key⟩ = l7 := by
        rw [← HL7.out, ← HL6.out, ← HL5.out, ← HL4.out, ← HL3.out, ← HL2.out, ← HL1.out, ← HL0.out, List.take_of_length_le (by rw [List.length_map, HN.out]; exact Nat.le_refl _)]
        simp [PMsg.enc, nums, HN.out]
      rw [e1]
      exact own_wide R7 (by omega)
set_option maxRecDepth 100000 in
set_option maxHeartbeats 4000000 in
theorem qencode_okf (kn fn tn te ix pr co : Nat) (dA : Option Addr) (dc : Nat) (d : List UInt8) (eA : Option Addr) (ec : Nat) (es : List Ent) (w : World)
    (hm : IsMsg w ⟨(kn : Int), (fn : Int), (tn : Int), te, ix, pr, co, false, dA, dc, d, eA, ec, es⟩) (h0 : checkF (kn : Int) (fn : Int) (tn : Int) d.length es = 0)
    (hu : te < 18446744073709551616 ∧ ix < 18446744073709551616 ∧ pr < 18446744073709551616 ∧ co < 18446744073709551616 ∧ ∀ e ∈ es, e.t < 18446744073709551616) :
    Calls Tryd.prog 25 #[.agg #[.int .i64 (kn : Int), .int .i64 (fn : Int), .int .i64 (tn : Int), .int .u64 (te : Int), .int .u64 (ix : Int), .int .u64 (pr : Int), .int .u64 (co : Int), .bool false, .slice dA d.length dc, .slice eA es.length ec]] w fun e w' =>
      ∃ v n, e = .returned (.tuple #[v, .int .i64 0]) ∧ w'.ownsRow w.heap.size 5 1 v n ((PMsg.enc ⟨(kn : Int), (fn : Int), (tn : Int), te, ix, pr, co, false, d, es.map Ent.key⟩).map bv) ∧ Below w.heap.size w w' := by
  obtain ⟨i0, hi0, hz0, hz1, hz2⟩ := info_parts u8_info
  have hR := right_of h0
  obtain ⟨⟨dlo, dhi, hsd⟩, ⟨elo, ehi, hse⟩, hed⟩ := hm
  simp only at hsd hse hed
  obtain ⟨dn, hdn⟩ : ∃ n, d.length = n := ⟨_, rfl⟩
  obtain ⟨n, hn⟩ : ∃ n, es.length = n := ⟨_, rfl⟩
  rw [hdn] at h0 hsd ⊢
  rw [hn] at hse ⊢
  have hd7 := hR.d
  have hn8 := hR.n
  rw [hdn] at hd7
  rw [hn] at hn8
  have hk2 := hR.k2
  have hf2 := hR.f2
  have ht2 := hR.t2
  obtain ⟨hu1, hu2, hu3, hu4, hu5⟩ := hu
  have HU5 := Lib.hid hu5
  have HDN := Lib.hid hdn
  have HN := Lib.hid hn
  have HR := Lib.hid hR
  clear hdn hn hR hu5
  have hcapd := hsd.cap
  have hmaxd := hsd.max
  have hcape := hse.cap
  have hmaxe := hse.max
  have hchk := qcheck_any (kn : Int) (fn : Int) (tn : Int) te ix pr co false dA dn dc eA n ec elo ehi es _ (hse.alloc (by decide) (.cells #[.int .i64 (kn : Int), .int .i64 (fn : Int), .int .i64 (tn : Int), .int .u64 (te : Int), .int .u64 (ix : Int), .int .u64 (pr : Int), .int .u64 (co : Int), .bool false, .slice dA dn dc, .slice eA n ec] 41)) (by omega)
  rw [h0] at hchk
  have HC := Lib.hid hchk
  clear hchk h0
  go_enter Tryd.func25, Tryd.ntmps25
  go_wp2_with fail
  refine HC.out.mono ?_
  rintro e w1 ⟨rfl, hb1⟩
  have MB := (Blk.new w 41 #[.int .i64 (kn : Int), .int .i64 (fn : Int), .int .i64 (tn : Int), .int .u64 (te : Int), .int .u64 (ix : Int), .int .u64 (pr : Int), .int .u64 (co : Int), .bool false, .slice dA dn dc, .slice eA n ec]).after hb1
  have D1 := below_boxed hb1
  have hsw : Sl w 0 w.heap.size 3 eA n ec (ecells es) := (hse.now (by decide)).wide (Nat.zero_le _) (Nat.le_refl _)
  have HSE := Lib.hid hsw
  have hdw : Sl w 0 w.heap.size 1 dA dn dc (d.map bv) := (hsd.now (by decide)).wide (Nat.zero_le _) (Nat.le_refl _)
  have HSD := Lib.hid hdw
  have HED : Hid (∀ e ∈ es, BytesIn w 0 w.heap.size (.slice e.A e.l.length e.c) e.l) := fun e he => (hed e he).now
  clear hb1 HC hse hsd hed hsw hdw
  obtain ⟨x0, x1, x2, x3, x4, x5, x6, x7, x8, x9⟩ := MB.c10
  have w1k : IntKind.u8.wrap (kn : Int) = (kn : Int) := by rw [IntKind.wrap_u8']; omega
  have w1f : IntKind.u8.wrap (fn : Int) = (fn : Int) := by rw [IntKind.wrap_u8']; omega
  have w1t : IntKind.u8.wrap (tn : Int) = (tn : Int) := by rw [IntKind.wrap_u8']; omega
  have L0 : (nums [kn, fn, tn, 0] 1).length = 4 := by rw [nums_len]; rfl
  have M0 := nums4 kn fn tn 0 (by omega) (by omega) (by omega) (by omega)
  have hsz1 := MB.lt
  have Q0 : QE w #[.int .i64 (kn : Int), .int .i64 (fn : Int), .int .i64 (tn : Int), .int .u64 (te : Int), .int .u64 (ix : Int), .int .u64 (pr : Int), .int .u64 (co : Int), .bool false, .slice dA dn dc, .slice eA n ec] 4 (w1.alloc (.cells #[.int .u8 (kn : Int), .int .u8 (fn : Int), .int .u8 (tn : Int), .int .u8 0] 5)) (.slice (some ⟨w1.heap.size, 0, none⟩) 4 4) (nums [kn, fn, tn, 0] 1) := by
    refine ⟨MB.alloc _, ?_, D1.alloc D1.size _, by omega⟩
    rw [M0, L0]
    exact own_wide (own_list w1 w1.heap.size [.int .u8 (kn : Int), .int .u8 (fn : Int), .int .u8 (tn : Int), .int .u8 0] 5 rfl (by simp [maxLen])) (by omega)
  clear MB D1 M0
  obtain ⟨l0, hl0⟩ : ∃ l, nums [kn, fn, tn, 0] 1 = l := ⟨_, rfl⟩
  rw [hl0] at Q0 L0
  have HL0 := Lib.hid hl0
  clear hl0
  have eL0 := Lib.hid L0
  have R0 := Q0.own
  rw [L0] at R0
  clear L0
  go_wp2_with fail
  refine (refNumber_any te 8 _ (by omega) (by omega)).mono ?_
  rintro e a0 ⟨u0, rfl, o0, b0⟩
  obtain ⟨A0, c0, rfl, s0⟩ := own_sl o0
  have P0 := Q0.after b0
  replace R0 := own_after R0 b0
  have z0 := P0.mb.lt
  clear Q0 x0 x1 x2 x3 x4 x5 x6 x7 x8 x9
  clear o0 b0
  go_wp2_with (at_builtin; refine wpList_app _ rfl (.tmp 26) (.tmp 29) 22 rfl (w.heap.size + 1) 5 i0 _ 1 1 Tryd.underlying22 hi0 hz0 hz1 hz2 rfl (by omega) (.slice (some ⟨w1.heap.size, 0, none⟩) 4 4) 4 _ rfl R0 _ _ A0 8 c0 _ rfl s0 (bv_one _) (by simp only [maxLen]; omega) (by omega) (by first | omega | (simp only [alloc_size]; omega)) ?_; intro v1 d1 p1 g1 _; have Q1 : QE w #[.int .i64 (kn : Int), .int .i64 (fn : Int), .int .i64 (tn : Int), .int .u64 (te : Int), .int .u64 (ix : Int), .int .u64 (pr : Int), .int .u64 (co : Int), .bool false, .slice dA dn dc, .slice eA n ec] (4 + 8) d1 v1 (l0 ++ num te 8) := P0.app rfl (num_len _ _) (by rw [eL0.out]; exact p1) g1; obtain ⟨x0, x1, x2, x3, x4, x5, x6, x7, x8, x9⟩ := Q1.mb.c10; obtain ⟨l1, hl1⟩ : ∃ l, l0 ++ num te 8 = l := ⟨_, rfl⟩; rw [hl1] at Q1; have HL1 := Lib.hid hl1; obtain ⟨E1, f1, hv1⟩ := Q1.form; have hm1 := Q1.len; obtain ⟨m1, he1⟩ : ∃ m, l1.length = m := ⟨_, rfl⟩; rw [he1] at hv1 hm1; subst hv1; have eL1 := Lib.hid he1; have R1 := Q1.own; rw [he1] at R1; have zz1 := Q1.mb.lt; clear P0 R0 p1 g1 hl1 he1)
  go_wp2_with fail
  refine (refNumber_any ix 8 _ (by omega) (by omega)).mono ?_
  rintro e a1 ⟨u1, rfl, o1, b1⟩
  obtain ⟨A1, c1, rfl, s1⟩ := own_sl o1
  have P1 := Q1.after b1
  replace R1 := own_after R1 b1
  have z1 := P1.mb.lt
  clear Q1 x0 x1 x2 x3 x4 x5 x6 x7 x8 x9
  clear o1 b1
  go_wp2_with (at_builtin; refine wpList_app _ rfl (.tmp 31) (.tmp 34) 22 rfl (w.heap.size + 1) 5 i0 _ 1 1 Tryd.underlying22 hi0 hz0 hz1 hz2 rfl (by omega) (.slice E1 m1 f1) m1 _ rfl R1 _ _ A1 8 c1 _ rfl s1 (bv_one _) (by simp only [maxLen]; omega) (by omega) (by first | omega | (simp only [alloc_size]; omega)) ?_; intro v2 d2 p2 g2 _; have Q2 : QE w #[.int .i64 (kn : Int), .int .i64 (fn : Int), .int .i64 (tn : Int), .int .u64 (te : Int), .int .u64 (ix : Int), .int .u64 (pr : Int), .int .u64 (co : Int), .bool false, .slice dA dn dc, .slice eA n ec] (4 + 8 + 8) d2 v2 (l1 ++ num ix 8) := P1.app rfl (num_len _ _) (by rw [eL1.out]; exact p2) g2; obtain ⟨x0, x1, x2, x3, x4, x5, x6, x7, x8, x9⟩ := Q2.mb.c10; obtain ⟨l2, hl2⟩ : ∃ l, l1 ++ num ix 8 = l := ⟨_, rfl⟩; rw [hl2] at Q2; have HL2 := Lib.hid hl2; obtain ⟨E2, f2, hv2⟩ := Q2.form; have hm2 := Q2.len; obtain ⟨m2, he2⟩ : ∃ m, l2.length = m := ⟨_, rfl⟩; rw [he2] at hv2 hm2; subst hv2; have eL2 := Lib.hid he2; have R2 := Q2.own; rw [he2] at R2; have zz2 := Q2.mb.lt; clear P1 R1 p2 g2 hl2 he2)
  go_wp2_with fail
  refine (refNumber_any pr 8 _ (by omega) (by omega)).mono ?_
  rintro e a2 ⟨u2, rfl, o2, b2⟩
  obtain ⟨A2, c2, rfl, s2⟩ := own_sl o2
  have P2 := Q2.after b2
  replace R2 := own_after R2 b2
  have z2 := P2.mb.lt
  clear Q2 x0 x1 x2 x3 x4 x5 x6 x7 x8 x9
  clear o2 b2
  go_wp2_with (at_builtin; refine wpList_app _ rfl (.tmp 36) (.tmp 39) 22 rfl (w.heap.size + 1) 5 i0 _ 1 1 Tryd.underlying22 hi0 hz0 hz1 hz2 rfl (by omega) (.slice E2 m2 f2) m2 _ rfl R2 _ _ A2 8 c2 _ rfl s2 (bv_one _) (by simp only [maxLen]; omega) (by omega) (by first | omega | (simp only [alloc_size]; omega)) ?_; intro v3 d3 p3 g3 _; have Q3 : QE w #[.int .i64 (kn : Int), .int .i64 (fn : Int), .int .i64 (tn : Int), .int .u64 (te : Int), .int .u64 (ix : Int), .int .u64 (pr : Int), .int .u64 (co : Int), .bool false, .slice dA dn dc, .slice eA n ec] (4 + 8 + 8 + 8) d3 v3 (l2 ++ num pr 8) := P2.app rfl (num_len _ _) (by rw [eL2.out]; exact p3) g3; obtain ⟨x0, x1, x2, x3, x4, x5, x6, x7, x8, x9⟩ := Q3.mb.c10; obtain ⟨l3, hl3⟩ : ∃ l, l2 ++ num pr 8 = l := ⟨_, rfl⟩; rw [hl3] at Q3; have HL3 := Lib.hid hl3; obtain ⟨E3, f3, hv3⟩ := Q3.form; have hm3 := Q3.len; obtain ⟨m3, he3⟩ : ∃ m, l3.length = m := ⟨_, rfl⟩; rw [he3] at hv3 hm3; subst hv3; have eL3 := Lib.hid he3; have R3 := Q3.own; rw [he3] at R3; have zz3 := Q3.mb.lt; clear P2 R2 p3 g3 hl3 he3)
  go_wp2_with fail
  refine (refNumber_any co 8 _ (by omega) (by omega)).mono ?_
  rintro e a3 ⟨u3, rfl, o3, b3⟩
  obtain ⟨A3, c3, rfl, s3⟩ := own_sl o3
  have P3 := Q3.after b3
  replace R3 := own_after R3 b3
  have z3 := P3.mb.lt
  clear Q3 x0 x1 x2 x3 x4 x5 x6 x7 x8 x9
  clear o3 b3
  go_wp2_with (at_builtin; refine wpList_app _ rfl (.tmp 41) (.tmp 44) 22 rfl (w.heap.size + 1) 5 i0 _ 1 1 Tryd.underlying22 hi0 hz0 hz1 hz2 rfl (by omega) (.slice E3 m3 f3) m3 _ rfl R3 _ _ A3 8 c3 _ rfl s3 (bv_one _) (by simp only [maxLen]; omega) (by omega) (by first | omega | (simp only [alloc_size]; omega)) ?_; intro v4 d4 p4 g4 _; have Q4 : QE w #[.int .i64 (kn : Int), .int .i64 (fn : Int), .int .i64 (tn : Int), .int .u64 (te : Int), .int .u64 (ix : Int), .int .u64 (pr : Int), .int .u64 (co : Int), .bool false, .slice dA dn dc, .slice eA n ec] (4 + 8 + 8 + 8 + 8) d4 v4 (l3 ++ num co 8) := P3.app rfl (num_len _ _) (by rw [eL3.out]; exact p4) g4; obtain ⟨x0, x1, x2, x3, x4, x5, x6, x7, x8, x9⟩ := Q4.mb.c10; obtain ⟨l4, hl4⟩ : ∃ l, l3 ++ num co 8 = l := ⟨_, rfl⟩; rw [hl4] at Q4; have HL4 := Lib.hid hl4; obtain ⟨E4, f4, hv4⟩ := Q4.form; have hm4 := Q4.len; obtain ⟨m4, he4⟩ : ∃ m, l4.length = m := ⟨_, rfl⟩; rw [he4] at hv4 hm4; subst hv4; have eL4 := Lib.hid he4; have R4 := Q4.own; rw [he4] at R4; have zz4 := Q4.mb.lt; clear P3 R3 p4 g4 hl4 he4)
  have hdb : Bytes d4 (.slice dA dn dc) d := (HSD.out.below Q4.bel (Nat.le_refl _)).bytes
  go_wp2_with fail
  refine (refBytes_any _ hdb (by rw [HDN.out]; omega)).mono ?_
  rintro e a4 ⟨u4, rfl, o4, b4⟩
  rw [HDN.out] at o4
  obtain ⟨A4, c4, rfl, s4⟩ := own_sl o4
  have P4 := Q4.after b4
  replace R4 := own_after R4 b4
  have z4 := P4.mb.lt
  clear Q4 x0 x1 x2 x3 x4 x5 x6 x7 x8 x9
  clear o4 b4 hdb
  have wn8 : IntKind.u8.wrap (n : Int) = (n : Int) := by rw [IntKind.wrap_u8']; omega
  go_wp2_with (first | (at_builtin; have _g := P5; refine wpList_app _ rfl (.tmp 51) (.tmp 56) 22 rfl (w.heap.size + 1) 5 i0 _ 1 1 Tryd.underlying22 hi0 hz0 hz1 hz2 rfl (by omega) (.slice E5 m5 f5) m5 _ rfl (R5.alloc _) d5.heap.size (d5.heap.size + 1) (some ⟨d5.heap.size, 0, none⟩) 1 1 [.int .u8 (n : Int)] rfl (sl_one _ _ _) (by intro u hu; rw [List.mem_singleton.1 hu]; rfl) (by simp only [maxLen]; omega) (by omega) (by first | omega | (simp only [alloc_size]; omega)) ?_; intro v6 d6 p6 g6 _; have Q6 : QE w #[.int .i64 (kn : Int), .int .i64 (fn : Int), .int .i64 (tn : Int), .int .u64 (te : Int), .int .u64 (ix : Int), .int .u64 (pr : Int), .int .u64 (co : Int), .bool false, .slice dA dn dc, .slice eA n ec] (4 + 8 + 8 + 8 + 8 + (dn + 2) + 1) d6 v6 (l5 ++ num n 1) := P5.app (by rw [num1 n (by omega)]) (num_len _ _) (by rw [eL5.out]; exact p6) g6; obtain ⟨x0, x1, x2, x3, x4, x5, x6, x7, x8, x9⟩ := Q6.mb.c10; obtain ⟨l6, hl6⟩ : ∃ l, l5 ++ num n 1 = l := ⟨_, rfl⟩; rw [hl6] at Q6; have HL6 := Lib.hid hl6; obtain ⟨E6, f6, hv6⟩ := Q6.form; have hm6 := Q6.len; obtain ⟨m6, he6⟩ : ∃ m, l6.length = m := ⟨_, rfl⟩; rw [he6] at hv6 hm6; subst hv6; have eL6 := Lib.hid he6; have R6 := Q6.own; rw [he6] at R6; have zz6 := Q6.mb.lt; clear P5 R5 p6 g6 hl6 he6) | (at_builtin; refine wpList_app _ rfl (.tmp 46) (.tmp 49) 22 rfl (w.heap.size + 1) 5 i0 _ 1 1 Tryd.underlying22 hi0 hz0 hz1 hz2 rfl (by omega) (.slice E4 m4 f4) m4 _ rfl R4 _ _ A4 (dn + 2) c4 _ rfl s4 (bv_one _) (by simp only [maxLen]; omega) (by omega) (by first | omega | (simp only [alloc_size]; omega)) ?_; intro v5 d5 p5 g5 _; have Q5 : QE w #[.int .i64 (kn : Int), .int .i64 (fn : Int), .int .i64 (tn : Int), .int .u64 (te : Int), .int .u64 (ix : Int), .int .u64 (pr : Int), .int .u64 (co : Int), .bool false, .slice dA dn dc, .slice eA n ec] (4 + 8 + 8 + 8 + 8 + (dn + 2)) d5 v5 (l4 ++ bytesF d) := P4.app rfl (by rw [bytesF_len, HDN.out]) (by rw [eL4.out]; exact p5) g5; obtain ⟨x0, x1, x2, x3, x4, x5, x6, x7, x8, x9⟩ := Q5.mb.c10; obtain ⟨l5, hl5⟩ : ∃ l, l4 ++ bytesF d = l := ⟨_, rfl⟩; rw [hl5] at Q5; have HL5 := Lib.hid hl5; obtain ⟨E5, f5, hv5⟩ := Q5.form; have hm5 := Q5.len; obtain ⟨m5, he5⟩ : ∃ m, l5.length = m := ⟨_, rfl⟩; rw [he5] at hv5 hm5; subst hv5; have eL5 := Lib.hid he5; have R5 := Q5.own; rw [he5] at R5; have zz5 := Q5.mb.lt; clear P4 R4 p5 g5 hl5 he5; have P5 := Q5.alloc (.cells #[.int .u8 (n : Int)] 5)))
  have hm6' : 4 + 8 + 8 + 8 + 8 + (dn + 2) + 1 ≤ 800 := by omega
  go_loopw [6, 7] (fun v i wr => ∃ k : Nat, k ≤ n ∧ i = .int .i64 k ∧ QE w #[.int .i64 (kn : Int), .int .i64 (fn : Int), .int .i64 (tn : Int), .int .u64 (te : Int), .int .u64 (ix : Int), .int .u64 (pr : Int), .int .u64 (co : Int), .bool false, .slice dA dn dc, .slice eA n ec] (800 + k * 35) wr v (l6 ++ encKs ((es.map Ent.key).take k))) (fun _ i _ => n - (intOf i).toNat)
  case atStart => exact ⟨0, Nat.zero_le _, rfl, by have q := Q6.weak hm6'; simpa [encKs] using q⟩
  case round =>
    clear x0 x1 x2 x3 x4 x5 x6 x7 x8 x9 Q6 Q5
    obtain ⟨k, hk, rfl, Q7⟩ := hrel
    obtain ⟨x0, x1, x2, x3, x4, x5, x6, x7, x8, x9⟩ := Q7.mb.c10
    obtain ⟨l7, hl7⟩ : ∃ l, l6 ++ encKs ((es.map Ent.key).take k) = l := ⟨_, rfl⟩
    rw [hl7] at Q7
    have HL7 := Lib.hid hl7
    obtain ⟨E7, f7, hv7⟩ := Q7.form
    have hm7 := Q7.len
    obtain ⟨m7, he7⟩ : ∃ m, l7.length = m := ⟨_, rfl⟩
    rw [he7] at hv7 hm7
    subst hv7
    have eL7 := Lib.hid he7
    have R7 := Q7.own
    rw [he7] at R7
    have zz7 := Q7.mb.lt
    clear hl7 he7
    by_cases hlt : k < n
    · obtain ⟨ad, ⟨et, ek, eA', ec', el⟩, rfl, he, c0, c1, c2⟩ := HSE.out.ent hlt
      simp only at c0 c1 c2
      have hmem := List.mem_of_getElem? he
      have het := HU5.out _ hmem
      have hen := HR.out.l _ hmem
      have hek1 := HR.out.e1 _ hmem
      have hek2 := HR.out.e2 _ hmem
      have hbd := HED.out _ hmem
      simp only at het hen hek1 hek2 hbd
      obtain ⟨en, hel⟩ : ∃ en, el.length = en := ⟨_, rfl⟩
      rw [hel] at hen c2 hbd
      have HEL := Lib.hid hel
      have HBD := Lib.hid hbd
      have hbl : (ad.add (k * 3)).block < w.heap.size := World.block_lt_of_cell? w _ c0
      have C1 := Lib.hid c1
      have C2 := Lib.hid c2
      have t0 := (Q7.bel.cell hbl).trans c0
      have HE := Lib.hid he
      have wk8 : IntKind.u8.wrap ek = ek := by rw [IntKind.wrap_u8']; omega
      obtain ⟨ekn, hekn⟩ : ∃ z : Nat, ek = (z : Int) := ⟨ek.toNat, by omega⟩
      clear hel hbd c0 c1 c2 he hmem
      subst hekn
      go_wp2_with fail
      refine (refNumber_any et 8 _ (by omega) (by omega)).mono ?_
      rintro e a7 ⟨u7, rfl, o7, b7⟩
      obtain ⟨A7, c7, rfl, s7⟩ := own_sl o7
      have P7 := Q7.after b7
      replace R7 := own_after R7 b7
      have z7 := P7.mb.lt
      clear Q7 x0 x1 x2 x3 x4 x5 x6 x7 x8 x9
      clear o7 b7 t0
      go_wp2_with (first | (at_builtin; have _g := P8; clear t1; refine wpList_app _ rfl (.tmp 74) (.tmp 82) 22 rfl (w.heap.size + 1) 5 i0 _ 1 1 Tryd.underlying22 hi0 hz0 hz1 hz2 rfl (by omega) (.slice E8 m8 f8) m8 _ rfl (R8.alloc _) d8.heap.size (d8.heap.size + 1) (some ⟨d8.heap.size, 0, none⟩) 1 1 [.int .u8 (ekn : Int)] rfl (sl_one _ _ _) (by intro u hu; rw [List.mem_singleton.1 hu]; rfl) (by simp only [maxLen]; omega) (by omega) (by first | omega | (simp only [alloc_size]; omega)) ?_; intro v9 d9 p9 g9 _; have Q9 : QE w #[.int .i64 (kn : Int), .int .i64 (fn : Int), .int .i64 (tn : Int), .int .u64 (te : Int), .int .u64 (ix : Int), .int .u64 (pr : Int), .int .u64 (co : Int), .bool false, .slice dA dn dc, .slice (some ad) n ec] (800 + k * 35 + 8 + 1) d9 v9 (l8 ++ num ekn 1) := P8.app (by rw [num1 ekn (by omega)]) (num_len _ _) (by rw [eL8.out]; exact p9) g9; obtain ⟨x0, x1, x2, x3, x4, x5, x6, x7, x8, x9⟩ := Q9.mb.c10; obtain ⟨l9, hl9⟩ : ∃ l, l8 ++ num ekn 1 = l := ⟨_, rfl⟩; rw [hl9] at Q9; have HL9 := Lib.hid hl9; obtain ⟨E9, f9, hv9⟩ := Q9.form; have hm9 := Q9.len; obtain ⟨m9, he9⟩ : ∃ m, l9.length = m := ⟨_, rfl⟩; rw [he9] at hv9 hm9; subst hv9; have eL9 := Lib.hid he9; have R9 := Q9.own; rw [he9] at R9; have zz9 := Q9.mb.lt; clear P8 R8 p9 g9 hl9 he9; have t2 := (Q9.bel.cell (p := ⟨(ad.add (k * 3)).block, (ad.add (k * 3)).off + 2, none⟩) hbl).trans C2.out) | (at_builtin; refine wpList_app _ rfl (.tmp 65) (.tmp 72) 22 rfl (w.heap.size + 1) 5 i0 _ 1 1 Tryd.underlying22 hi0 hz0 hz1 hz2 rfl (by omega) (.slice E7 m7 f7) m7 _ rfl R7 _ _ A7 8 c7 _ rfl s7 (bv_one _) (by simp only [maxLen]; omega) (by omega) (by first | omega | (simp only [alloc_size]; omega)) ?_; intro v8 d8 p8 g8 _; have Q8 : QE w #[.int .i64 (kn : Int), .int .i64 (fn : Int), .int .i64 (tn : Int), .int .u64 (te : Int), .int .u64 (ix : Int), .int .u64 (pr : Int), .int .u64 (co : Int), .bool false, .slice dA dn dc, .slice (some ad) n ec] (800 + k * 35 + 8) d8 v8 (l7 ++ num et 8) := P7.app rfl (num_len _ _) (by rw [eL7.out]; exact p8) g8; obtain ⟨x0, x1, x2, x3, x4, x5, x6, x7, x8, x9⟩ := Q8.mb.c10; obtain ⟨l8, hl8⟩ : ∃ l, l7 ++ num et 8 = l := ⟨_, rfl⟩; rw [hl8] at Q8; have HL8 := Lib.hid hl8; obtain ⟨E8, f8, hv8⟩ := Q8.form; have hm8 := Q8.len; obtain ⟨m8, he8⟩ : ∃ m, l8.length = m := ⟨_, rfl⟩; rw [he8] at hv8 hm8; subst hv8; have eL8 := Lib.hid he8; have R8 := Q8.own; rw [he8] at R8; have zz8 := Q8.mb.lt; clear P7 R7 p8 g8 hl8 he8; have P8 := Q8.alloc (.cells #[.int .u8 (ekn : Int)] 5); have t1 := (Q8.bel.cell (p := ⟨(ad.add (k * 3)).block, (ad.add (k * 3)).off + 1, none⟩) hbl).trans C1.out))
      have hdb : Bytes d9 (.slice eA' en ec') el := (HBD.out.below Q9.bel (Nat.le_refl _)).bytes
      refine (refBytes_any _ hdb (by rw [HEL.out]; omega)).mono ?_
      rintro e a9 ⟨u9, rfl, o9, b9⟩
      rw [HEL.out] at o9
      obtain ⟨A9, c9, rfl, s9⟩ := own_sl o9
      have P9 := Q9.after b9
      replace R9 := own_after R9 b9
      have z9 := P9.mb.lt
      clear Q9 x0 x1 x2 x3 x4 x5 x6 x7 x8 x9
      clear o9 b9 hdb t2
      go_wp2_with (at_builtin; refine wpList_app _ rfl (.tmp 84) (.tmp 91) 22 rfl (w.heap.size + 1) 5 i0 _ 1 1 Tryd.underlying22 hi0 hz0 hz1 hz2 rfl (by omega) (.slice E9 m9 f9) m9 _ rfl R9 _ _ A9 (en + 2) c9 _ rfl s9 (bv_one _) (by simp only [maxLen]; omega) (by omega) (by first | omega | (simp only [alloc_size]; omega)) ?_; intro v10 d10 p10 g10 _; have Q10 : QE w #[.int .i64 (kn : Int), .int .i64 (fn : Int), .int .i64 (tn : Int), .int .u64 (te : Int), .int .u64 (ix : Int), .int .u64 (pr : Int), .int .u64 (co : Int), .bool false, .slice dA dn dc, .slice (some ad) n ec] (800 + k * 35 + 8 + 1 + (en + 2)) d10 v10 (l9 ++ bytesF el) := P9.app rfl (by rw [bytesF_len, HEL.out]) (by rw [eL9.out]; exact p10) g10; obtain ⟨x0, x1, x2, x3, x4, x5, x6, x7, x8, x9⟩ := Q10.mb.c10; obtain ⟨l10, hl10⟩ : ∃ l, l9 ++ bytesF el = l := ⟨_, rfl⟩; rw [hl10] at Q10; have HL10 := Lib.hid hl10; obtain ⟨E10, f10, hv10⟩ := Q10.form; have hm10 := Q10.len; obtain ⟨m10, he10⟩ : ∃ m, l10.length = m := ⟨_, rfl⟩; rw [he10] at hv10 hm10; subst hv10; have eL10 := Lib.hid he10; have R10 := Q10.own; rw [he10] at R10; have zz10 := Q10.mb.lt; clear P9 R9 p10 g10 hl10 he10)
      go_roundw
      case rel =>
        refine ⟨k + 1, by omega, by go_num, ?_⟩
        have hk2 : ((es.map Ent.key))[k]? = some (et, (ekn : Int), el) := by rw [List.getElem?_map, HE.out]; rfl
        have e1 : l6 ++ encKs ((es.map Ent.key).take (k + 1)) = l10 := by
          rw [encKs_snoc _ _ _ hk2, ← HL10.out, ← HL9.out, ← HL8.out, ← HL7.out]
          simp [encK]
        rw [e1]
        exact Q10.weak (by omega)
      case measure => simp [intOf]; omega
    · have hkn : k = n := by omega
      subst hkn
      go_wp2
      go_ret2
      refine ⟨_, m7, rfl, ?_, Q7.bel⟩
      have e1 : PMsg.enc ⟨(kn : Int), (fn : Int), (tn : Int), te, ix, pr, co, false, d, es.map Ent.key⟩ = l7 := by
        rw [← HL7.out, ← HL6.out, ← HL5.out, ← HL4.out, ← HL3.out, ← HL2.out, ← HL1.out, ← HL0.out, List.take_of_length_le (by rw [List.length_map, HN.out]; exact Nat.le_refl _)]
        simp [PMsg.enc, nums, HN.out]
      rw [e1]
      exact own_wide R7 (by omega)
end Go.Proofs.YtciolppoanfiaaaDoor
