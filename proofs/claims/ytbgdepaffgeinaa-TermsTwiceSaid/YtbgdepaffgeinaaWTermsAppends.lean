import Derived.Test.YtbgdepaffgeinaaPAppend
namespace Go.Proofs.Ytbgdepaffgeinaa
open Go.RowKit

theorem edata_appendF {w : World} {base bt : Nat} {es xs E : List Ent} {prev pt f c : Nat} (h : appendF base bt es prev pt xs = (E, f, c)) (he : EData w es) (hx : EData w xs) : EData w E := fun e hm => ((appendF_mem h).1 e hm).elim (he e) (hx e)
set_option maxRecDepth 100000 in
/-- are two logs one: yes -/
theorem refSame_any (base bt n m c d lo hi lo' hi' : Nat) (A B : Option Addr) (es : List Ent) (w : World) (ha : Sl w lo hi 3 A n c (ecells es)) (hb : Sl w lo' hi' 3 B m d (ecells es)) (he : EData w es) :
    Calls Try.prog 56 #[.int .u64 (base : Int), .int .u64 (bt : Int), .slice A n c, .agg #[.int .u64 (base : Int), .int .u64 (bt : Int), .slice B m d]] w fun e w' => e = .returned (.bool true) ∧ Below w.heap.size w w' := by
  go_enter Try.func56, Try.ntmps56
  go_wp2_with fail
  refine (entries_b A B n m c d lo hi lo' hi' es es _ (ha.alloc (by decide) _) (hb.alloc (by decide) _) (he.alloc _) (he.alloc _) rfl).mono ?_
  rintro e w1 ⟨rfl, hb1⟩
  obtain ⟨x0, x1, x2⟩ := ((Blk.new w _ _).after hb1).c3
  go_wp2
  go_ret
  exact ⟨rfl, below_boxed hb1⟩
set_option maxRecDepth 100000 in
theorem lawSame_any (base bt n m c d lo hi lo' hi' : Nat) (A B : Option Addr) (es : List Ent) (w : World) (ha : Sl w lo hi 3 A n c (ecells es)) (hb : Sl w lo' hi' 3 B m d (ecells es)) (he : EData w es) :
    Calls Try.prog 30 #[.agg #[.int .u64 (base : Int), .int .u64 (bt : Int), .slice A n c], .agg #[.int .u64 (base : Int), .int .u64 (bt : Int), .slice B m d]] w fun e w' => e = .returned (.bool true) ∧ Below w.heap.size w w' := by
  obtain ⟨x0, x1, x2⟩ := ((Blk.new w 25 #[.int .u64 (base : Int), .int .u64 (bt : Int), .slice A n c]).alloc (Obj.cells #[.int .u64 (base : Int), .int .u64 (bt : Int), .slice B m d] 28)).c3
  go_enter Try.func30, Try.ntmps30
  go_wp2_with (go_at_call 56; refine (refSame_any base bt n m c d lo hi lo' hi' A B es _ ((ha.alloc (by decide) _).alloc (by decide) _) ((hb.alloc (by decide) _).alloc (by decide) _) ((he.alloc _).alloc _)).mono ?_; rintro e w1 ⟨rfl, hb1⟩)
  go_ret
  exact ⟨rfl, below_boxed (below_boxed hb1)⟩
set_option maxRecDepth 100000 in
set_option maxHeartbeats 2000000 in
theorem termsAppends_any (w : World) {v : Value} {l : Nat × Nat × List Ent} (hL : IsLog w v l) {prev pt : Nat} (hp : prev < 18446744073709551616) (_h2 : pt < 18446744073709551616) {vx : Value} {xs : List Ent} (hX : Ents w vx xs) :
    Calls Try.prog 4 #[v, .int .u64 (prev : Int), .int .u64 (pt : Int), vx] w fun e w' => e = .returned (.bool true) ∧ Below w.heap.size w w' := by
  obtain ⟨base, bt, es⟩ := l
  obtain ⟨u, rfl, ⟨A, c, lo, hi', rfl, S0, E0, -⟩, -, -⟩ := hL
  obtain ⟨Bx, d, lo2, hi2, rfl, X0, F0, -⟩ := hX
  simp only at S0 E0 ⊢
  obtain ⟨n, hn⟩ : ∃ n, es.length = n := ⟨_, rfl⟩
  obtain ⟨m, hm⟩ : ∃ m, xs.length = m := ⟨_, rfl⟩
  have hcap := S0.cap
  have hmax := S0.max
  have hcapx := X0.cap
  have hmaxx := X0.max
  rw [hn] at S0 hcap ⊢
  rw [hm] at X0 hcapx ⊢
  have HN := Lib.hid hn
  have HM := Lib.hid hm
  clear hn hm
  by_cases hsh : base < 1152921504606846976 ∧ n ≤ 30
  · obtain ⟨hb, hn30⟩ := hsh
    have hn1 : n ≤ 1000 := by omega
    by_cases hm30 : m ≤ 30
    · have hm1 : m ≤ 1000 := by omega
      obtain ⟨E, f, cd, hF⟩ : ∃ E f cd, appendF base bt es prev pt xs = (E, f, cd) := ⟨_, _, _, rfl⟩
      have G0 := edata_appendF hF E0 F0
      have hq : decide ((30 : Int) < (m : Int)) = false := decide_eq_false (by omega)
      have HF := Lib.hid hF
      clear hF
      go_enter Try.func4, Try.ntmps4
      go_wp2_with fail
      refine (awake9_any _).mono ?_
      rintro e w1 ⟨rfl, hb1⟩
      have S1 := (S0.alloc (by decide) _).after (by decide) hb1
      have X1 := (X0.alloc (by decide) _).after (by decide) hb1
      have G1 := (G0.alloc _).after hb1
      have D1 := (below_alloc' (Below.refl w.heap.size w) _ (Nat.le_refl _)).trans (hb1.mono (below_alloc' (Below.refl w.heap.size w) _ (Nat.le_refl _)).size)
      have B1 := (Blk.new _ _ _).after hb1
      clear S0 X0 G0 hb1
      obtain ⟨Bx0, Bx1, Bx2⟩ := B1.c3
      go_wp2_with fail
      refine (short_yes hb hn30).mono ?_
      rintro e _ ⟨rfl, rfl⟩
      go_wp2_with fail
      refine (append_any base bt n c prev pt m d _ _ _ _ A Bx es xs _ S1 X1 hb hn1 hm1 hp).mono ?_
      rintro e w2 ⟨A2, n2, c2, E2, f2, cd2, rfl, hF2, ⟨lo3, hi3, hs3⟩, hb2⟩
      have D2 := D1.trans (hb2.mono D1.size)
      have S2 := S1.after (by decide) hb2
      have X2 := X1.after (by decide) hb2
      have G2 := G1.after hb2
      have B2 := B1.after hb2
      clear S1 X1 G1 B1 D1 hb2 Bx0 Bx1 Bx2
      rw [HF.out] at hF2
      obtain ⟨rfl, rfl, rfl⟩ : E = E2 ∧ f = f2 ∧ cd = cd2 := by simpa using hF2
      clear hF2
      have Z2 := hs3
      obtain ⟨Bx0, Bx1, Bx2⟩ := (B2.alloc (Obj.cells #[.int .u64 (base : Int), .int .u64 (bt : Int), .slice A2 n2 c2] 25)).c3
      go_wp2_with fail
      refine (doc_any base n c (bt : Int) A _).mono ?_
      rintro e w3 ⟨rfl, hb3⟩
      have D3 := (below_alloc' D2 _ (Nat.le_refl _)).trans (hb3.mono (below_alloc' D2 _ (Nat.le_refl _)).size)
      have S3 := (S2.alloc (by decide) _).after (by decide) hb3
      have X3 := (X2.alloc (by decide) _).after (by decide) hb3
      have G3 := (G2.alloc _).after hb3
      have B3 := (B2.alloc _).after hb3
      have Z3 := (Z2.alloc (by decide) _).after (by decide) hb3
      have P3 := (Blk.new _ _ _).after hb3
      clear S2 X2 G2 B2 Z2 D2 hb3 Bx0 Bx1 Bx2
      go_wp2_with fail
      refine (rappend_any base bt n c prev pt m d _ _ _ _ A Bx es xs _ S3 X3 hb hn1 hm1).mono ?_
      rintro e w4 ⟨A3, n3, c3, E3, f3, cd3, rfl, hF3, ⟨lo4, hi4, hs4⟩, hb4⟩
      have D4 := D3.trans (hb4.mono D3.size)
      have S4 := S3.after (by decide) hb4
      have X4 := X3.after (by decide) hb4
      have G4 := G3.after hb4
      have B4 := B3.after hb4
      have Z4 := Z3.after (by decide) hb4
      have P4 := P3.after hb4
      clear S3 X3 G3 B3 Z3 P3 D3 hb4
      rw [HF.out] at hF3
      obtain ⟨rfl, rfl, rfl⟩ : E = E3 ∧ f = f3 ∧ cd = cd3 := by simpa using hF3
      clear hF3
      have Y4 := hs4
      obtain ⟨Px0, Px1, Px2⟩ := (P4.alloc (Obj.cells #[.int .u64 (base : Int), .int .u64 (bt : Int), .slice A3 n3 c3] 28)).c3
      go_wp2_with fail
      refine (lawSame_any base bt n2 n3 c2 c3 _ _ _ _ A2 A3 E _ (Z4.alloc (by decide) _) (Y4.alloc (by decide) _) (G4.alloc _)).mono ?_
      rintro e w5 ⟨rfl, hb5⟩
      have D5 := (below_alloc' D4 _ (Nat.le_refl _)).trans (hb5.mono (below_alloc' D4 _ (Nat.le_refl _)).size)
      have S5 := (S4.alloc (by decide) _).after (by decide) hb5
      have X5 := (X4.alloc (by decide) _).after (by decide) hb5
      have G5 := (G4.alloc _).after hb5
      have B5 := (B4.alloc _).after hb5
      have Z5 := (Z4.alloc (by decide) _).after (by decide) hb5
      have P5 := (P4.alloc _).after hb5
      have Y5 := (Y4.alloc (by decide) _).after (by decide) hb5
      clear S4 X4 G4 B4 Z4 P4 Y4 D4 hb5 Px0 Px1 Px2
      go_wp2
      go_ret
      exact ⟨rfl, D5⟩
    · have hq : decide ((30 : Int) < (m : Int)) = true := decide_eq_true (by omega)
      go_enter Try.func4, Try.ntmps4
      go_wp2_with fail
      refine (awake9_any _).mono ?_
      rintro e w1 ⟨rfl, hb1⟩
      have B1 := (Blk.new w _ _).after hb1
      obtain ⟨x0, x1, x2⟩ := B1.c3
      go_wp2_with fail
      refine (short_yes hb hn30).mono ?_
      rintro e _ ⟨rfl, rfl⟩
      go_wp2
      go_ret
      exact ⟨rfl, below_boxed hb1⟩
  · go_enter Try.func4, Try.ntmps4
    go_wp2_with fail
    refine (awake9_any _).mono ?_
    rintro e w1 ⟨rfl, hb1⟩
    have B1 := (Blk.new w _ _).after hb1
    obtain ⟨x0, x1, x2⟩ := B1.c3
    go_wp2_with fail
    refine (short_no hsh).mono ?_
    rintro e _ ⟨rfl, rfl⟩
    go_wp2
    go_ret
    exact ⟨rfl, below_boxed hb1⟩
end Go.Proofs.Ytbgdepaffgeinaa
