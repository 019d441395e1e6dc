/- The law ElectQuiet, walked. -/
import Derived.Test.YtbgdepaffgeinaaElBoth
import Derived.Test.YtbgdepaffgeinaaElAwake
namespace Go.Proofs.Ytbgdepaffgeinaa
open Go.RowKit
theorem setND_ok {me : Int} {xs : List Int} {role vote : Int} {term base bt : Nat} {es : List Ent} {heard : Bool} (h : MayBe me xs role vote term base es.length) : (setND me xs role vote term base bt es heard).Ok := by
  have hr := h.right
  unfold right at hr
  simp only [Bool.and_eq_true] at hr
  have hl := (right_all xs (-1) hr.1).1
  have h1 := h.base
  have h2 := h.en
  have h3 := h.me0
  have h4 := h.me15
  have h5 := h.term
  exact ⟨h1, by show es.length ≤ 900; omega, by show xs.length ≤ 1000; omega, h3, by show me < 16; omega, by show term < 4611686018427387904; omega⟩
theorem onAsk_three (x : ND) (f : Int) (t i q : Nat) : ∃ m : Ms, x.onAsk 3 f t i q = (x, [m]) ∧ m.kind = 4 ∧ m.dst = f := by
  unfold ND.onAsk
  rw [if_neg (by decide), if_pos rfl]
  refine ⟨_, rfl, ?_, ?_⟩
  · split <;> rfl
  · split <;> rfl
set_option maxRecDepth 100000 in
set_option maxHeartbeats 6400000 in
theorem electQuiet_any (me : Int) (A : Option Addr) (n c lo hi : Nat) (xs : List Int) (role vote : Int) (term base bt : Nat) (eA : Option Addr) (en ec lo' hi' : Nat) (es : List Ent)
    (k f d : Int) (t i q cm : Nat) (ok : Bool) (dA : Option Addr) (dn dc : Nat) (mA : Option Addr) (mn mc lo2 hi2 : Nat) (ms : List Ent) (w : World) (hs : Sl w lo hi 1 A n c (xs.map iv)) (he : Sl w lo' hi' 3 eA en ec (ecells es)) (hdn : dn ≤ 9223372036854775807) (hm : Sl w lo2 hi2 3 mA mn mc (ecells ms)) :
    Calls Try.prog 11 #[.int .i64 me, .slice A n c, .int .i64 role, .int .i64 vote, .int .u64 (term : Int), .agg #[.int .u64 (base : Int), .int .u64 (bt : Int), .slice eA en ec], .agg #[.int .i64 k, .int .i64 f, .int .i64 d, .int .u64 (t : Int), .int .u64 (i : Int), .int .u64 (q : Int), .int .u64 (cm : Int), .bool ok, .slice dA dn dc, .slice mA mn mc]] w fun e w' => e = .returned (.bool true) ∧ Below w.heap.size w w' := by
  have HBO := Lib.hid (fun W (hW : Below w.heap.size w W) => both_any me A n c lo _ xs role vote term base bt eA en ec lo' _ es false W (hs.after (by decide) hW) (he.after (by decide) hW))
  have HSH := Lib.hid (fun W (hW : Below w.heap.size w W) => mshort_some k f d t i q cm ok dA dn dc mA mn mc lo2 _ ms W hdn (hm.after (by decide) hW))
  have B0 := Blk.new w 25 #[.int .u64 (base : Int), .int .u64 (bt : Int), .slice eA en ec]
  have B1 := Blk.new (w.alloc (.cells #[.int .u64 (base : Int), .int .u64 (bt : Int), .slice eA en ec] 25)) 81 #[.int .i64 k, .int .i64 f, .int .i64 d, .int .u64 (t : Int), .int .u64 (i : Int), .int .u64 (q : Int), .int .u64 (cm : Int), .bool ok, .slice dA dn dc, .slice mA mn mc]
  have B0 := B0.alloc (.cells #[.int .i64 k, .int .i64 f, .int .i64 d, .int .u64 (t : Int), .int .u64 (i : Int), .int .u64 (q : Int), .int .u64 (cm : Int), .bool ok, .slice dA dn dc, .slice mA mn mc] 81)
  have D0 : Below w.heap.size w ((w.alloc (.cells #[.int .u64 (base : Int), .int .u64 (bt : Int), .slice eA en ec] 25)).alloc (.cells #[.int .i64 k, .int .i64 f, .int .i64 d, .int .u64 (t : Int), .int .u64 (i : Int), .int .u64 (q : Int), .int .u64 (cm : Int), .bool ok, .slice dA dn dc, .slice mA mn mc] 81)) := ((Below.refl _ w).alloc (Nat.le_refl _) _).alloc (by simp) _
  simp only [alloc_size] at B1
  clear hs he hm
  go_enter Try.func11, Try.ntmps11
  go_wp2_with fail
  refine (awake11_any _).mono ?_
  rintro e w1 ⟨rfl, hb1⟩
  have B01 := B0.after hb1
  have B11 := B1.after hb1
  have D1 := D0.trans (hb1.mono D0.size)
  clear B0 B1 D0 hb1
  obtain ⟨z0, z1, z2⟩ := B01.c3
  have HB0 := Lib.hid B01
  have HB1 := Lib.hid B11
  have HD1 := Lib.hid D1
  clear B01 B11 D1
  go_wp2_with fail
  refine (HBO.out w1 HD1.out).mono ?_
  rintro e w2 ⟨hb2, hres⟩
  have B12 := HB1.out.after hb2
  have D2 := HD1.out.trans (hb2.mono HD1.out.size)
  have HB2 := Lib.hid B12
  have HD2 := Lib.hid D2
  have m0 : w2.cell? ⟨w.heap.size + 1, 0, none⟩ = some (.int .i64 k) := B12.cell 0
  have m1 : w2.cell? ⟨w.heap.size + 1, 1, none⟩ = some (.int .i64 f) := B12.cell 1
  have m2 : w2.cell? ⟨w.heap.size + 1, 2, none⟩ = some (.int .i64 d) := B12.cell 2
  have m3 : w2.cell? ⟨w.heap.size + 1, 3, none⟩ = some (.int .u64 (t : Int)) := B12.cell 3
  have m4 : w2.cell? ⟨w.heap.size + 1, 4, none⟩ = some (.int .u64 (i : Int)) := B12.cell 4
  have m5 : w2.cell? ⟨w.heap.size + 1, 5, none⟩ = some (.int .u64 (q : Int)) := B12.cell 5
  have m6 : w2.cell? ⟨w.heap.size + 1, 6, none⟩ = some (.int .u64 (cm : Int)) := B12.cell 6
  have m7 : w2.cell? ⟨w.heap.size + 1, 7, none⟩ = some (.bool ok) := B12.cell 7
  have m8 : w2.cell? ⟨w.heap.size + 1, 8, none⟩ = some (.slice dA dn dc) := B12.cell 8
  have m9 : w2.cell? ⟨w.heap.size + 1, 9, none⟩ = some (.slice mA mn mc) := B12.cell 9
  clear B12 D2 hb2 z0 z1 z2 HBO HB0
  rcases hres with rfl | ⟨hmb, b, p, O, g, qq, S, rfl, hN, -, -⟩
  · go_wp2_with fail
    refine (HSH.out w2 HD2.out).mono ?_
    rintro e w3 ⟨⟨bb, rfl⟩, hb3⟩
    have D3 := HD2.out.trans (hb3.mono HD2.out.size)
    go_wp2
    go_ret
    exact ⟨rfl, D3⟩
  · have HOK := Lib.hid (setND_ok hmb (bt := bt) (heard := false))
    have HN := Lib.hid hN
    clear hmb hN
    go_wp2_with fail
    refine (HSH.out w2 HD2.out).mono ?_
    rintro e w3 ⟨⟨bb, rfl⟩, hb3⟩
    have B3 := HB2.out.after hb3
    have D3 := HD2.out.trans (hb3.mono HD2.out.size)
    have N3 := HN.out.after hb3
    have HB3 := Lib.hid B3
    have HD3 := Lib.hid D3
    have HN3 := Lib.hid N3
    have m0' : w3.cell? ⟨w.heap.size + 1, 0, none⟩ = some (.int .i64 k) := B3.cell 0
    clear D3 N3 hb3 m0 m1 m2 m3 m4 m5 m6 m7 m8 m9 HB2 HD2 HN HSH
    cases bb with
    | false =>
      go_wp2
      go_ret
      exact ⟨rfl, HD3.out⟩
    | true =>
      by_cases hk : k = 3
      · subst hk
        have m1 : w3.cell? ⟨w.heap.size + 1, 1, none⟩ = some (.int .i64 f) := B3.cell 1
        have m2 : w3.cell? ⟨w.heap.size + 1, 2, none⟩ = some (.int .i64 d) := B3.cell 2
        have m3 : w3.cell? ⟨w.heap.size + 1, 3, none⟩ = some (.int .u64 (t : Int)) := B3.cell 3
        have m4 : w3.cell? ⟨w.heap.size + 1, 4, none⟩ = some (.int .u64 (i : Int)) := B3.cell 4
        have m5 : w3.cell? ⟨w.heap.size + 1, 5, none⟩ = some (.int .u64 (q : Int)) := B3.cell 5
        have m6 : w3.cell? ⟨w.heap.size + 1, 6, none⟩ = some (.int .u64 (cm : Int)) := B3.cell 6
        have m7 : w3.cell? ⟨w.heap.size + 1, 7, none⟩ = some (.bool ok) := B3.cell 7
        have m8 : w3.cell? ⟨w.heap.size + 1, 8, none⟩ = some (.slice dA dn dc) := B3.cell 8
        have m9 : w3.cell? ⟨w.heap.size + 1, 9, none⟩ = some (.slice mA mn mc) := B3.cell 9
        clear B3
        go_wp2_with fail
        refine (onAsk_pre f d t i q (.int .u64 (cm : Int)) ok (.slice dA dn dc) (.slice mA mn mc) w3 HN3.out HOK.out).mono ?_
        rintro e w4 ⟨v, rfl, hsent⟩
        obtain ⟨m', hm', hk4, hdst⟩ := onAsk_three (setND me xs role vote term base bt es false) f t i q
        rw [hm'] at hsent
        obtain ⟨p4, O4, hN4, hS4, hC4, hrow, -⟩ := hsent
        have B4 := HB3.out.chg hC4 (fun hO => by
          have h1 := HN3.out.low _ hO
          have h2 := HB1.out.lt
          omega)
        have D4 := HD3.out.trans (hC4.toBelow (fun k1 hk1 => by
          have h1 := HN3.out.low _ hk1
          have h2 := HB1.out.lt
          omega) HD3.out.size)
        obtain ⟨ba, ca, rfl, hba, hbal, hsa⟩ := own_at hrow (Nat.zero_lt_one)
        have HB4 := Lib.hid B4
        have HD4 := Lib.hid D4
        have HN4 := Lib.hid hN4
        have HS4 := Lib.hid hsa
        have m0 : w4.cell? ⟨w.heap.size + 1, 0, none⟩ = some (.int .i64 3) := B4.cell 0
        have m1 : w4.cell? ⟨w.heap.size + 1, 1, none⟩ = some (.int .i64 f) := B4.cell 1
        have m2 : w4.cell? ⟨w.heap.size + 1, 2, none⟩ = some (.int .i64 d) := B4.cell 2
        have m3 : w4.cell? ⟨w.heap.size + 1, 3, none⟩ = some (.int .u64 (t : Int)) := B4.cell 3
        have m4 : w4.cell? ⟨w.heap.size + 1, 4, none⟩ = some (.int .u64 (i : Int)) := B4.cell 4
        have m5 : w4.cell? ⟨w.heap.size + 1, 5, none⟩ = some (.int .u64 (q : Int)) := B4.cell 5
        have m6 : w4.cell? ⟨w.heap.size + 1, 6, none⟩ = some (.int .u64 (cm : Int)) := B4.cell 6
        have m7 : w4.cell? ⟨w.heap.size + 1, 7, none⟩ = some (.bool ok) := B4.cell 7
        have m8 : w4.cell? ⟨w.heap.size + 1, 8, none⟩ = some (.slice dA dn dc) := B4.cell 8
        have m9 : w4.cell? ⟨w.heap.size + 1, 9, none⟩ = some (.slice mA mn mc) := B4.cell 9
        clear B4 D4 hN4 hsa hC4 hS4 hrow m0' hm' HN3 HB3 HD3 HB1 HD1 HOK hba hbal
        go_wp2_with fail
        refine (onAns_no 3 f d t i q (.int .u64 (cm : Int)) ok (.slice dA dn dc) (.slice mA mn mc) w4 HN4.out (by decide) (by decide)).mono ?_
        rintro e w5 ⟨v, rfl, rfl, -, hb5⟩
        have B5 := HB4.out.after hb5
        have N5 := HN4.out.after hb5
        have D5 := HD4.out.trans (hb5.mono HD4.out.size)
        have S5 := HS4.out.now (by decide) |>.after (by decide) hb5
        have m1 : w5.cell? ⟨w.heap.size + 1, 1, none⟩ = some (.int .i64 f) := B5.cell 1
        have n1 : w5.cell? ⟨b, 1, none⟩ = some (.int .i64 vote) := N5.blk.cell 1
        have n2 : w5.cell? ⟨b, 2, none⟩ = some (.int .i64 role) := N5.blk.cell 2
        have n6 : w5.cell? ⟨b, 6, none⟩ = some (.int .u64 (term : Int)) := N5.blk.cell 6
        obtain ⟨ad, hae, -, -, hcc⟩ := S5.at_ Nat.zero_lt_one
        cases hae
        have a0 : w5.cell? ⟨ba, 0, none⟩ = some (.int .i64 4) := hcc 0 (.int .i64 4) (by rw [← hk4]; rfl)
        have a2 : w5.cell? ⟨ba, 2, none⟩ = some (.int .i64 f) := hcc 2 (.int .i64 f) (by rw [← hdst]; rfl)
        clear hcc
        have HD5 := Lib.hid D5
        clear B5 N5 S5 D5 hb5 m0 m2 m3 m4 m5 m6 m7 m8 m9 HB4 HD4 HN4 HS4 hk4 hdst
        go_wp2
        go_quiet (fail)
        go_wp2
        go_ret
        exact ⟨by first | rfl | simp, below_drewN HD5.out _⟩
      · have hk' : (k != 3) = true := bne_iff_ne.2 hk
        clear B3
        go_wp2
        go_ret
        exact ⟨rfl, HD3.out⟩
end Go.Proofs.Ytbgdepaffgeinaa
