import Derived.Test.YtciolppoanfiaaaDoorZBagC
import Derived.Test.YtciolppoanfiaaaDoorZStep
import Derived.Test.YtciolppoanfiaaaDoorZMsg
/- The examples of chapter 07. -/
namespace Go.Proofs.YtciolppoanfiaaaDoor
open Go.RowKit
theorem dE_of {ks : List (Int × Int)} {l : List UInt8} {p : PMsg} (h1 : unE l = 0) (h2 : unM l = p) {E : Nat} (h3 : (if pk p.f p.t ∈ ks then 50 else 0) = E) : dE ks l = E := by
  unfold dE
  rw [if_pos h1, h2]
  exact h3
def lS : List UInt8 := (pm 1 2).pkL.set (60 / 8) (spB ((pm 1 2).pkL.getD (60 / 8) 0) (60 % 8))
theorem lS_unE : unE lS = 20 := by decide +kernel
set_option maxRecDepth 100000 in
set_option maxHeartbeats 8000000 in
theorem awake7_any (w : World) (hT : Tab w) (hH0 : 0 < w.heap.size) : Calls Tryd.prog 32 #[] w fun e w' => e = .returned (.bool true) ∧ Below w.heap.size w w' := by
  have u12 := un_pk (pm_pk (x := 1) (y := 2) (by decide) (by decide)) (pm_fits 1 2)
  have u23 := un_pk (pm_pk (x := 2) (y := 3) (by decide) (by decide)) (pm_fits 2 3)
  have HS : Hid ((pm 1 2).pkL.set (60 / 8) (spB ((pm 1 2).pkL.getD (60 / 8) 0) (60 % 8)) = lS) := rfl
  have HSL : Hid (lS.length ≤ 2000) := by show _ ≤ _; unfold lS; rw [List.length_set]; exact u12.2.2
  have hlSE : Hid (dE [] lS = 20) := by show _ = _; unfold dE; rw [lS_unE]; rfl
  have HB8 : Hid (60 / 8 < (pm 1 2).pkL.length) := by show _ < _; decide +kernel
  obtain ⟨l12, hl12⟩ : ∃ l, (pm 1 2).pkL = l := ⟨_, rfl⟩
  obtain ⟨l23, hl23⟩ : ∃ l, (pm 2 3).pkL = l := ⟨_, rfl⟩
  rw [hl12] at u12 HS HB8
  rw [hl23] at u23
  have hl12bE : Hid (dE [pk 2 1] l12 = 50) := dE_of u12.1 u12.2.1 (by decide)
  have hl23aE : Hid (dE [] l23 = 0) := dE_of u23.1 u23.2.1 rfl
  have hl12bP : Hid ((if 50 = 0 then unM l12 else PMsg.zero) = PMsg.zero) := rfl
  have hl23aP : Hid ((if 0 = 0 then unM l23 else PMsg.zero) = pm 2 3) := u23.2.1
  have hlScE := hlSE
  have hlScP : Hid ((if 20 = 0 then unM lS else PMsg.zero) = PMsg.zero) := rfl
  have HL12 := Lib.hid hl12
  have HL23 := Lib.hid hl23
  have U12 := Lib.hid u12.2.2
  have U23 := Lib.hid u23.2.2
  clear hl12 hl23 u12 u23
  go_enter Tryd.func32, Tryd.ntmps32
  have D0 := Lib.hid (Below.refl w.heap.size w)
  go_wp2_with fail
  refine (bnew_any w.heap.size _ D0.out.size).mono ?_
  rintro e w1 ⟨ga, Oa, rfl, N1, L1, b1⟩
  have D1' := D0.out.trans (b1.mono D0.out.size)
  have D1 := Lib.hid D1'
  clear D0 D1'
  have B1a := Lib.hid N1
  clear N1 L1 b1
  go_wp2_with fail
  refine (bnew_any w.heap.size _ D1.out.size).mono ?_
  rintro e w2 ⟨gb, Ob, rfl, N2, L2, b2⟩
  have q2ba' : ∀ k, Oa k → ¬ Ob k := fun k h1 h2 => by have h3 := B1a.out.top k h1; have h4 := L2 k h2; omega
  have q2ba := Lib.hid q2ba'
  have q2ab' : ∀ k, Ob k → ¬ Oa k := fun k h2 h1 => by have h3 := B1a.out.top k h1; have h4 := L2 k h2; omega
  have q2ab := Lib.hid q2ab'
  clear q2ba' q2ab'
  have D2' := D1.out.trans (b2.mono D1.out.size)
  have D2 := Lib.hid D2'
  have B2a' := B1a.out.after b2
  have B2a := Lib.hid B2a'
  clear D1 B1a B2a' D2'
  have B2b := Lib.hid N2
  clear N2 L2 b2
  go_wp2_with fail
  refine (bnew_any w.heap.size _ D2.out.size).mono ?_
  rintro e w3 ⟨gc, Oc, rfl, N3, L3, b3⟩
  have q3ca' : ∀ k, Oa k → ¬ Oc k := fun k h1 h2 => by have h3 := B2a.out.top k h1; have h4 := L3 k h2; omega
  have q3ca := Lib.hid q3ca'
  have q3ac' : ∀ k, Oc k → ¬ Oa k := fun k h2 h1 => by have h3 := B2a.out.top k h1; have h4 := L3 k h2; omega
  have q3ac := Lib.hid q3ac'
  clear q3ca' q3ac'
  have q3cb' : ∀ k, Ob k → ¬ Oc k := fun k h1 h2 => by have h3 := B2b.out.top k h1; have h4 := L3 k h2; omega
  have q3cb := Lib.hid q3cb'
  have q3bc' : ∀ k, Oc k → ¬ Ob k := fun k h2 h1 => by have h3 := B2b.out.top k h1; have h4 := L3 k h2; omega
  have q3bc := Lib.hid q3bc'
  clear q3cb' q3bc'
  have D3' := D2.out.trans (b3.mono D2.out.size)
  have D3 := Lib.hid D3'
  have B3a' := B2a.out.after b3
  have B3a := Lib.hid B3a'
  have B3b' := B2b.out.after b3
  have B3b := Lib.hid B3b'
  clear D2 B2a B3a' B2b B3b' D3'
  have B3c := Lib.hid N3
  clear N3 L3 b3
  go_wp2_with fail
  refine (msg_any 1 2 _).mono ?_
  rintro e w4 ⟨rfl, b4⟩
  have D4' := D3.out.trans (b4.mono D3.out.size)
  have D4 := Lib.hid D4'
  have B4a' := B3a.out.after b4
  have B4a := Lib.hid B4a'
  have B4b' := B3b.out.after b4
  have B4b := Lib.hid B4b'
  have B4c' := B3c.out.after b4
  have B4c := Lib.hid B4c'
  clear D3 B3a B4a' B3b B4b' B3c B4c' D4'
  clear b4
  go_wp2_with fail
  refine (bsend_ok (mm 1 2) _ (isMsg_mm _ _ _) B4a.out (hT.below D4.out hH0) hH0 D4.out.size (pm_pk (by decide) (by decide)) rfl (by simp)).mono ?_
  rintro e w5 ⟨O5, rfl, N5, c5, s5⟩
  rw [mm_plain, HL12.out] at N5
  have D5' := D4.out.trans (c5.toBelow B4a.out.low D4.out.size)
  have D5 := Lib.hid D5'
  have p5ba' : ∀ k, O5 k → ¬ Ob k := fun k hk hk' => by rcases s5 k hk with h1 | h1; exact q2ba.out k h1 hk'; have := B4b.out.top k hk'; omega
  have p5ba := Lib.hid p5ba'
  have p5ab' := B4b.out.apart q2ab.out s5
  have p5ab := Lib.hid p5ab'
  have p5ca' : ∀ k, O5 k → ¬ Oc k := fun k hk hk' => by rcases s5 k hk with h1 | h1; exact q3ca.out k h1 hk'; have := B4c.out.top k hk'; omega
  have p5ca := Lib.hid p5ca'
  have p5ac' := B4c.out.apart q3ac.out s5
  have p5ac := Lib.hid p5ac'
  have B5b' := B4b.out.other c5 q2ab.out
  have B5b := Lib.hid B5b'
  have B5c' := B4c.out.other c5 q3ac.out
  have B5c := Lib.hid B5c'
  clear D4 q2ba p5ba' q2ab p5ab' q3ca p5ca' q3ac p5ac' B4b B5b' B4c B5c' D5'
  have B5a' : BagAt w.heap.size w5 O5 ga [l12] [] 0 := N5
  have B5a := Lib.hid B5a'
  clear B5a' N5
  clear B4a
  clear c5 s5
  go_wp2_with fail
  refine (msg_any 2 3 _).mono ?_
  rintro e w6 ⟨rfl, b6⟩
  have D6' := D5.out.trans (b6.mono D5.out.size)
  have D6 := Lib.hid D6'
  have B6a' := B5a.out.after b6
  have B6a := Lib.hid B6a'
  have B6b' := B5b.out.after b6
  have B6b := Lib.hid B6b'
  have B6c' := B5c.out.after b6
  have B6c := Lib.hid B6c'
  clear D5 B5a B6a' B5b B6b' B5c B6c' D6'
  clear b6
  go_wp2_with fail
  refine (bsend_ok (mm 2 3) _ (isMsg_mm _ _ _) B6a.out (hT.below D6.out hH0) hH0 D6.out.size (pm_pk (by decide) (by decide)) rfl (by simp)).mono ?_
  rintro e w7 ⟨O7, rfl, N7, c7, s7⟩
  rw [mm_plain, HL23.out] at N7
  have D7' := D6.out.trans (c7.toBelow B6a.out.low D6.out.size)
  have D7 := Lib.hid D7'
  have p7ba' : ∀ k, O7 k → ¬ Ob k := fun k hk hk' => by rcases s7 k hk with h1 | h1; exact p5ba.out k h1 hk'; have := B6b.out.top k hk'; omega
  have p7ba := Lib.hid p7ba'
  have p7ab' := B6b.out.apart p5ab.out s7
  have p7ab := Lib.hid p7ab'
  have p7ca' : ∀ k, O7 k → ¬ Oc k := fun k hk hk' => by rcases s7 k hk with h1 | h1; exact p5ca.out k h1 hk'; have := B6c.out.top k hk'; omega
  have p7ca := Lib.hid p7ca'
  have p7ac' := B6c.out.apart p5ac.out s7
  have p7ac := Lib.hid p7ac'
  have B7b' := B6b.out.other c7 p5ab.out
  have B7b := Lib.hid B7b'
  have B7c' := B6c.out.other c7 p5ac.out
  have B7c := Lib.hid B7c'
  clear D6 p5ba p7ba' p5ab p7ab' p5ca p7ca' p5ac p7ac' B6b B7b' B6c B7c' D7'
  have B7a' : BagAt w.heap.size w7 O7 ga [l12, l23] [] 0 := N7
  have B7a := Lib.hid B7a'
  clear B7a' N7
  clear B6a
  clear c7 s7
  go_wp2_with fail
  refine (bdeliver_ok 1 l23 _ B7a.out rfl (Nat.le_trans U23.out (by decide)) (by simp) (hT.below D7.out hH0) hH0 D7.out.size (by simp) (E := 0) hl23aE.out (P := pm 2 3) hl23aP.out (n := 0) rfl).mono ?_
  rintro e w8 ⟨m8, rfl, hp8, hm8, N8, c8⟩
  have D8' := D7.out.trans (c8.toBelow B7a.out.low D7.out.size)
  have D8 := Lib.hid D8'
  have B8b' := B7b.out.other c8 p7ab.out
  have B8b := Lib.hid B8b'
  have B8c' := B7c.out.other c8 p7ac.out
  have B8c := Lib.hid B8c'
  clear D7 B7b B8b' B7c B8c' D8'
  have B8a' : BagAt w.heap.size w8 O7 ga [l12] [] 0 := N8
  have B8a := Lib.hid B8a'
  clear B8a' N8
  clear B7a
  clear c8
  have ht8 : m8.t = 3 := congrArg PMsg.t hp8
  clear hm8 hp8
  obtain ⟨k8, f8, t8, te8, ix8, pr8, co8, ok8, dA8, dc8, d8, eA8, ec8, es8⟩ := m8
  simp only [Msg.v, mcells]
  generalize d8.length = dn8
  generalize es8.length = en8
  have Qn9b := Lib.hid (Blk.new w8 41 #[.int .i64 k8, .int .i64 f8, .int .i64 t8, .int .u64 (te8 : Int), .int .u64 (ix8 : Int), .int .u64 (pr8 : Int), .int .u64 (co8 : Int), .bool ok8, .slice dA8 dn8 dc8, .slice eA8 en8 ec8])
  obtain ⟨Q, hQ⟩ : ∃ q, w8.heap.size = q := ⟨_, rfl⟩
  rw [hQ] at Qn9b
  have hQh := Lib.hid hQ
  have Qo9a' : ¬ O7 Q := fun hk => by have := B8a.out.top _ hk; omega
  have Qo9a := Lib.hid Qo9a'
  clear Qo9a'
  have Qo9b' : ¬ Ob Q := fun hk => by have := B8b.out.top _ hk; omega
  have Qo9b := Lib.hid Qo9b'
  clear Qo9b'
  have Qo9c' : ¬ Oc Q := fun hk => by have := B8c.out.top _ hk; omega
  have Qo9c := Lib.hid Qo9c'
  clear Qo9c'
  have D9' := D8.out.alloc D8.out.size (.cells #[.int .i64 k8, .int .i64 f8, .int .i64 t8, .int .u64 (te8 : Int), .int .u64 (ix8 : Int), .int .u64 (pr8 : Int), .int .u64 (co8 : Int), .bool ok8, .slice dA8 dn8 dc8, .slice eA8 en8 ec8] 41)
  have D9 := Lib.hid D9'
  have B9a' := B8a.out.alloc (.cells #[.int .i64 k8, .int .i64 f8, .int .i64 t8, .int .u64 (te8 : Int), .int .u64 (ix8 : Int), .int .u64 (pr8 : Int), .int .u64 (co8 : Int), .bool ok8, .slice dA8 dn8 dc8, .slice eA8 en8 ec8] 41)
  have B9a := Lib.hid B9a'
  have B9b' := B8b.out.alloc (.cells #[.int .i64 k8, .int .i64 f8, .int .i64 t8, .int .u64 (te8 : Int), .int .u64 (ix8 : Int), .int .u64 (pr8 : Int), .int .u64 (co8 : Int), .bool ok8, .slice dA8 dn8 dc8, .slice eA8 en8 ec8] 41)
  have B9b := Lib.hid B9b'
  have B9c' := B8c.out.alloc (.cells #[.int .i64 k8, .int .i64 f8, .int .i64 t8, .int .u64 (te8 : Int), .int .u64 (ix8 : Int), .int .u64 (pr8 : Int), .int .u64 (co8 : Int), .bool ok8, .slice dA8 dn8 dc8, .slice eA8 en8 ec8] 41)
  have B9c := Lib.hid B9c'
  clear D8 B8a B9a' B8b B9b' B8c B9c' D9'
  simp only at ht8
  subst ht8
  go_wp2_with fail
  refine (blen_any _ B9a.out).mono ?_
  rintro e _ ⟨rfl, rfl⟩
  go_wp2_with fail
  refine (msg_any 1 2 _).mono ?_
  rintro e w10 ⟨rfl, b10⟩
  have D10' := D9.out.trans (b10.mono D9.out.size)
  have D10 := Lib.hid D10'
  have Qn10' := Qn9b.out.after b10
  have Qn10 := Lib.hid Qn10'
  have B10a' := B9a.out.after b10
  have B10a := Lib.hid B10a'
  have B10b' := B9b.out.after b10
  have B10b := Lib.hid B10b'
  have B10c' := B9c.out.after b10
  have B10c := Lib.hid B10c'
  clear D9 Qn9b Qn10' B9a B10a' B9b B10b' B9c B10c' D10'
  clear b10
  go_wp2_with fail
  refine (bsend_ok (mm 1 2) _ (isMsg_mm _ _ _) B10b.out (hT.below D10.out hH0) hH0 D10.out.size (pm_pk (by decide) (by decide)) rfl (by simp)).mono ?_
  rintro e w11 ⟨O11, rfl, N11, c11, s11⟩
  rw [mm_plain, HL12.out] at N11
  have D11' := D10.out.trans (c11.toBelow B10b.out.low D10.out.size)
  have D11 := Lib.hid D11'
  have p11ba' := B10a.out.apart p7ba.out s11
  have p11ba := Lib.hid p11ba'
  have p11ab' : ∀ k, O11 k → ¬ O7 k := fun k hk hk' => by rcases s11 k hk with h1 | h1; exact p7ab.out k h1 hk'; have := B10a.out.top k hk'; omega
  have p11ab := Lib.hid p11ab'
  have p11cb' : ∀ k, O11 k → ¬ Oc k := fun k hk hk' => by rcases s11 k hk with h1 | h1; exact q3cb.out k h1 hk'; have := B10c.out.top k hk'; omega
  have p11cb := Lib.hid p11cb'
  have p11bc' := B10c.out.apart q3bc.out s11
  have p11bc := Lib.hid p11bc'
  have Qn11' := Qn10.out.chg c11 Qo9b.out
  have Qn11 := Lib.hid Qn11'
  have Qo11b' : ¬ O11 Q := fun hk => by rcases s11 _ hk with h1 | h1; exact Qo9b.out h1; have := Qn10.out.lt; omega
  have Qo11b := Lib.hid Qo11b'
  have B11a' := B10a.out.other c11 p7ba.out
  have B11a := Lib.hid B11a'
  have B11c' := B10c.out.other c11 q3bc.out
  have B11c := Lib.hid B11c'
  clear D10 p7ba p11ba' p7ab p11ab' q3cb p11cb' q3bc p11bc' Qn10 Qn11' Qo9b Qo11b' B10a B11a' B10c B11c' D11'
  have B11b' : BagAt w.heap.size w11 O11 gb [l12] [] 0 := N11
  have B11b := Lib.hid B11b'
  clear B11b' N11
  clear B10b
  clear c11 s11
  go_wp2_with fail
  refine (bcut_any 2 1 (by decide) (by decide) _ B11b.out).mono ?_
  rintro e w12 ⟨rfl, N12, c12⟩
  have D12' := D11.out.trans (c12.toBelow B11b.out.low D11.out.size)
  have D12 := Lib.hid D12'
  have Qn12' := Qn11.out.chg c12 Qo11b.out
  have Qn12 := Lib.hid Qn12'
  have B12a' := B11a.out.other c12 p11ba.out
  have B12a := Lib.hid B12a'
  have B12c' := B11c.out.other c12 p11bc.out
  have B12c := Lib.hid B12c'
  clear D11 Qn11 Qn12' B11a B12a' B11c B12c' D12'
  have B12b' : BagAt w.heap.size w12 O11 gb [l12] [pk 2 1] 0 := N12
  have B12b := Lib.hid B12b'
  clear B12b' N12
  clear B11b
  clear c12
  go_wp2_with fail
  refine (bdeliver_ok 0 l12 _ B12b.out rfl (Nat.le_trans U12.out (by decide)) (by simp) (hT.below D12.out hH0) hH0 D12.out.size (by simp) (E := 50) hl12bE.out (P := PMsg.zero) hl12bP.out (n := 1) rfl).mono ?_
  rintro e w13 ⟨m13, rfl, hp13, hm13, N13, c13⟩
  have D13' := D12.out.trans (c13.toBelow B12b.out.low D12.out.size)
  have D13 := Lib.hid D13'
  have Qn13' := Qn12.out.chg c13 Qo11b.out
  have Qn13 := Lib.hid Qn13'
  have B13a' := B12a.out.other c13 p11ba.out
  have B13a := Lib.hid B13a'
  have B13c' := B12c.out.other c13 p11bc.out
  have B13c := Lib.hid B13c'
  clear D12 Qn12 Qn13' B12a B13a' B12c B13c' D13'
  have B13b' : BagAt w.heap.size w13 O11 gb [] [pk 2 1] 1 := N13
  have B13b := Lib.hid B13b'
  clear B13b' N13
  clear B12b
  clear c13
  clear hm13 hp13
  obtain ⟨k13, f13, t13, te13, ix13, pr13, co13, ok13, dA13, dc13, d13, eA13, ec13, es13⟩ := m13
  simp only [Msg.v, mcells]
  generalize d13.length = dn13
  generalize es13.length = en13
  have D14' := D13.out.alloc D13.out.size (.cells #[.int .i64 k13, .int .i64 f13, .int .i64 t13, .int .u64 (te13 : Int), .int .u64 (ix13 : Int), .int .u64 (pr13 : Int), .int .u64 (co13 : Int), .bool ok13, .slice dA13 dn13 dc13, .slice eA13 en13 ec13] 41)
  have D14 := Lib.hid D14'
  have Qn14' := Qn13.out.alloc (.cells #[.int .i64 k13, .int .i64 f13, .int .i64 t13, .int .u64 (te13 : Int), .int .u64 (ix13 : Int), .int .u64 (pr13 : Int), .int .u64 (co13 : Int), .bool ok13, .slice dA13 dn13 dc13, .slice eA13 en13 ec13] 41)
  have Qn14 := Lib.hid Qn14'
  have B14a' := B13a.out.alloc (.cells #[.int .i64 k13, .int .i64 f13, .int .i64 t13, .int .u64 (te13 : Int), .int .u64 (ix13 : Int), .int .u64 (pr13 : Int), .int .u64 (co13 : Int), .bool ok13, .slice dA13 dn13 dc13, .slice eA13 en13 ec13] 41)
  have B14a := Lib.hid B14a'
  have B14b' := B13b.out.alloc (.cells #[.int .i64 k13, .int .i64 f13, .int .i64 t13, .int .u64 (te13 : Int), .int .u64 (ix13 : Int), .int .u64 (pr13 : Int), .int .u64 (co13 : Int), .bool ok13, .slice dA13 dn13 dc13, .slice eA13 en13 ec13] 41)
  have B14b := Lib.hid B14b'
  have B14c' := B13c.out.alloc (.cells #[.int .i64 k13, .int .i64 f13, .int .i64 t13, .int .u64 (te13 : Int), .int .u64 (ix13 : Int), .int .u64 (pr13 : Int), .int .u64 (co13 : Int), .bool ok13, .slice dA13 dn13 dc13, .slice eA13 en13 ec13] 41)
  have B14c := Lib.hid B14c'
  clear D13 Qn13 Qn14' B13a B14a' B13b B14b' B13c B14c' D14'
  go_wp2_with fail
  refine (blost_any _ B14b.out).mono ?_
  rintro e _ ⟨rfl, rfl⟩
  go_wp2_with fail
  refine (msg_any 1 2 _).mono ?_
  rintro e w15 ⟨rfl, b15⟩
  have D15' := D14.out.trans (b15.mono D14.out.size)
  have D15 := Lib.hid D15'
  have Qn15' := Qn14.out.after b15
  have Qn15 := Lib.hid Qn15'
  have B15a' := B14a.out.after b15
  have B15a := Lib.hid B15a'
  have B15b' := B14b.out.after b15
  have B15b := Lib.hid B15b'
  have B15c' := B14c.out.after b15
  have B15c := Lib.hid B15c'
  clear D14 Qn14 Qn15' B14a B15a' B14b B15b' B14c B15c' D15'
  clear b15
  go_wp2_with fail
  refine (bsend_ok (mm 1 2) _ (isMsg_mm _ _ _) B15c.out (hT.below D15.out hH0) hH0 D15.out.size (pm_pk (by decide) (by decide)) rfl (by simp)).mono ?_
  rintro e w16 ⟨O16, rfl, N16, c16, s16⟩
  rw [mm_plain, HL12.out] at N16
  have D16' := D15.out.trans (c16.toBelow B15c.out.low D15.out.size)
  have D16 := Lib.hid D16'
  have p16ca' := B15a.out.apart p7ca.out s16
  have p16ca := Lib.hid p16ca'
  have p16ac' : ∀ k, O16 k → ¬ O7 k := fun k hk hk' => by rcases s16 k hk with h1 | h1; exact p7ac.out k h1 hk'; have := B15a.out.top k hk'; omega
  have p16ac := Lib.hid p16ac'
  have p16cb' := B15b.out.apart p11cb.out s16
  have p16cb := Lib.hid p16cb'
  have p16bc' : ∀ k, O16 k → ¬ O11 k := fun k hk hk' => by rcases s16 k hk with h1 | h1; exact p11bc.out k h1 hk'; have := B15b.out.top k hk'; omega
  have p16bc := Lib.hid p16bc'
  have Qn16' := Qn15.out.chg c16 Qo9c.out
  have Qn16 := Lib.hid Qn16'
  have Qo16c' : ¬ O16 Q := fun hk => by rcases s16 _ hk with h1 | h1; exact Qo9c.out h1; have := Qn15.out.lt; omega
  have Qo16c := Lib.hid Qo16c'
  have B16a' := B15a.out.other c16 p7ca.out
  have B16a := Lib.hid B16a'
  have B16b' := B15b.out.other c16 p11cb.out
  have B16b := Lib.hid B16b'
  clear D15 p7ca p16ca' p7ac p16ac' p11cb p16cb' p11bc p16bc' Qn15 Qn16' Qo9c Qo16c' B15a B16a' B15b B16b' D16'
  have B16c' : BagAt w.heap.size w16 O16 gc [l12] [] 0 := N16
  have B16c := Lib.hid B16c'
  clear B16c' N16
  clear B15c
  clear c16 s16
  go_wp2_with fail
  refine (bspoil_ok 0 60 l12 _ B16c.out rfl HB8.out (Nat.le_trans U12.out (by decide))).mono ?_
  rintro e w17 ⟨rfl, N17, c17⟩
  have D17' := D16.out.trans (c17.toBelow B16c.out.low D16.out.size)
  have D17 := Lib.hid D17'
  have Qn17' := Qn16.out.chg c17 Qo16c.out
  have Qn17 := Lib.hid Qn17'
  have B17a' := B16a.out.other c17 p16ca.out
  have B17a := Lib.hid B17a'
  have B17b' := B16b.out.other c17 p16cb.out
  have B17b := Lib.hid B17b'
  clear D16 Qn16 Qn17' B16a B17a' B16b B17b' D17'
  have B17c' : BagAt w.heap.size w17 O16 gc [l12.set (60 / 8) (spB (l12.getD (60 / 8) 0) (60 % 8))] [] 0 := N17
  have B17c := Lib.hid B17c'
  clear B17c' N17
  clear B16c
  clear c17
  have B17cx := B17c.out
  rw [HS.out] at B17cx
  clear B17c
  have B17cy := Lib.hid B17cx
  clear B17cx
  go_wp2_with fail
  refine (bdeliver_ok 0 lS _ B17cy.out rfl (Nat.le_trans HSL.out (by decide)) (by simp) (hT.below D17.out hH0) hH0 D17.out.size (by simp) (E := 20) hlScE.out (P := PMsg.zero) hlScP.out (n := 1) rfl).mono ?_
  rintro e w18 ⟨m18, rfl, hp18, hm18, N18, c18⟩
  have D18' := D17.out.trans (c18.toBelow B17cy.out.low D17.out.size)
  have D18 := Lib.hid D18'
  have Qn18' := Qn17.out.chg c18 Qo16c.out
  have Qn18 := Lib.hid Qn18'
  have B18a' := B17a.out.other c18 p16ca.out
  have B18a := Lib.hid B18a'
  have B18b' := B17b.out.other c18 p16cb.out
  have B18b := Lib.hid B18b'
  clear D17 Qn17 Qn18' B17a B18a' B17b B18b' D18'
  have B18c' : BagAt w.heap.size w18 O16 gc [] [] 1 := N18
  have B18c := Lib.hid B18c'
  clear B18c' N18
  clear B17cy
  clear c18
  clear hm18 hp18
  obtain ⟨k18, f18, t18, te18, ix18, pr18, co18, ok18, dA18, dc18, d18, eA18, ec18, es18⟩ := m18
  simp only [Msg.v, mcells]
  generalize d18.length = dn18
  generalize es18.length = en18
  have D19' := D18.out.alloc D18.out.size (.cells #[.int .i64 k18, .int .i64 f18, .int .i64 t18, .int .u64 (te18 : Int), .int .u64 (ix18 : Int), .int .u64 (pr18 : Int), .int .u64 (co18 : Int), .bool ok18, .slice dA18 dn18 dc18, .slice eA18 en18 ec18] 41)
  have D19 := Lib.hid D19'
  have Qn19' := Qn18.out.alloc (.cells #[.int .i64 k18, .int .i64 f18, .int .i64 t18, .int .u64 (te18 : Int), .int .u64 (ix18 : Int), .int .u64 (pr18 : Int), .int .u64 (co18 : Int), .bool ok18, .slice dA18 dn18 dc18, .slice eA18 en18 ec18] 41)
  have Qn19 := Lib.hid Qn19'
  have B19a' := B18a.out.alloc (.cells #[.int .i64 k18, .int .i64 f18, .int .i64 t18, .int .u64 (te18 : Int), .int .u64 (ix18 : Int), .int .u64 (pr18 : Int), .int .u64 (co18 : Int), .bool ok18, .slice dA18 dn18 dc18, .slice eA18 en18 ec18] 41)
  have B19a := Lib.hid B19a'
  have B19b' := B18b.out.alloc (.cells #[.int .i64 k18, .int .i64 f18, .int .i64 t18, .int .u64 (te18 : Int), .int .u64 (ix18 : Int), .int .u64 (pr18 : Int), .int .u64 (co18 : Int), .bool ok18, .slice dA18 dn18 dc18, .slice eA18 en18 ec18] 41)
  have B19b := Lib.hid B19b'
  have B19c' := B18c.out.alloc (.cells #[.int .i64 k18, .int .i64 f18, .int .i64 t18, .int .u64 (te18 : Int), .int .u64 (ix18 : Int), .int .u64 (pr18 : Int), .int .u64 (co18 : Int), .bool ok18, .slice dA18 dn18 dc18, .slice eA18 en18 ec18] 41)
  have B19c := Lib.hid B19c'
  clear D18 Qn18 Qn19' B18a B19a' B18b B19b' B18c B19c' D19'
  have qb := Qn19.out
  obtain ⟨x0, x1, x2, x3, x4, x5, x6, x7, x8, x9⟩ := qb.c10
  clear qb
  go_wp2
  go_ret
  exact ⟨rfl, D19.out⟩
end Go.Proofs.YtciolppoanfiaaaDoor

/- One step of both bags: the arms (written by gen_bagone.py). -/
namespace Go.Proofs.YtciolppoanfiaaaDoor
open Go.RowKit
def opCells (d i k : Int) (m : Msg) : Array Value := #[.int .i64 d, .int .i64 i, .int .i64 k, .int .i64 m.k, .int .i64 m.f, .int .i64 m.t, .int .u64 (m.te : Int), .int .u64 (m.ix : Int), .int .u64 (m.pr : Int), .int .u64 (m.co : Int), .bool m.ok, .slice m.dA m.d.length m.dc, .slice m.eA m.es.length m.ec]
def OnePost (H : Nat) (w : World) (g g2 c : Nat) (e : Ending) (w' : World) : Prop := e = .returned (.bool true) ∧ Next H w w' g g2 c
section
variable {wH w : World} {g g2 : Nat} {fs : List (List UInt8)} {lost c : Nat}
theorem Next.box {H : Nat} {w2 : World} {o : Obj} (hH : H ≤ w.heap.size) (h : Next H (w.alloc o) w2 g g2 c) : Next H w w2 g g2 c := ⟨((Below.refl H w).alloc hH o).trans h.1, h.2⟩
set_option maxRecDepth 100000 in
set_option maxHeartbeats 6400000 in
theorem one3 (i k : Int) (m : Msg) (h : Both wH.heap.size w g g2 fs lost c) (hc : c ≤ 1000) :
    Calls Tryd.prog 39 #[.pointer (some ⟨g, 0, none⟩), .pointer (some ⟨g2, 0, none⟩), .agg (opCells 3 i k m)] w (OnePost wH.heap.size w g g2 c) := by
  have hHw := h.hHw
  have B0 := Blk.new w 63 (opCells 3 i k m)
  have D0 := (Below.refl w.heap.size w).alloc (Nat.le_refl _) (.cells (opCells 3 i k m) 63)
  obtain ⟨E, hC⟩ := drop_both i h hc D0
  have HC := Lib.hid hC
  have HB := Lib.hid B0
  clear hC B0 h D0
  unfold opCells at HC HB ⊢
  go_enter Tryd.func39, Tryd.ntmps39
  go_wp2_with fail
  refine HC.out.mono ?_
  rintro e w1 ⟨rfl, hk1, hN⟩
  have B1 : Blk w1 w.heap.size _ _ := (hk1 _ (Nat.le_refl _) (by simp)).trans HB.out
  have z1 : w1.cell? ⟨w.heap.size, 1, none⟩ = some (.int .i64 i) := B1.cell 1
  have HN := Lib.hid (hN w1 (Below.refl _ _))
  clear hN hk1 B1 HC HB
  go_wp2_with fail
  refine HN.out.mono ?_
  rintro e w2 ⟨rfl, hn⟩
  have HF := Lib.hid (Next.box hHw hn)
  clear hn HN
  go_wp2
  go_ret
  exact ⟨by first | rfl | simp, HF.out⟩
set_option maxRecDepth 100000 in
set_option maxHeartbeats 6400000 in
theorem one4 (i k : Int) (m : Msg) (h : Both wH.heap.size w g g2 fs lost c) (hc : c ≤ 1000) :
    Calls Tryd.prog 39 #[.pointer (some ⟨g, 0, none⟩), .pointer (some ⟨g2, 0, none⟩), .agg (opCells 4 i k m)] w (OnePost wH.heap.size w g g2 c) := by
  have hHw := h.hHw
  have B0 := Blk.new w 63 (opCells 4 i k m)
  have D0 := (Below.refl w.heap.size w).alloc (Nat.le_refl _) (.cells (opCells 4 i k m) 63)
  obtain ⟨E, hC⟩ := twice_both i h D0
  have HC := Lib.hid hC
  have HB := Lib.hid B0
  clear hC B0 h D0
  unfold opCells at HC HB ⊢
  go_enter Tryd.func39, Tryd.ntmps39
  go_wp2_with fail
  refine HC.out.mono ?_
  rintro e w1 ⟨rfl, hk1, hN⟩
  have B1 : Blk w1 w.heap.size _ _ := (hk1 _ (Nat.le_refl _) (by simp)).trans HB.out
  have z1 : w1.cell? ⟨w.heap.size, 1, none⟩ = some (.int .i64 i) := B1.cell 1
  have HN := Lib.hid (hN w1 (Below.refl _ _))
  clear hN hk1 B1 HC HB
  go_wp2_with fail
  refine HN.out.mono ?_
  rintro e w2 ⟨rfl, hn⟩
  have HF := Lib.hid (Next.box hHw hn)
  clear hn HN
  go_wp2
  go_ret
  exact ⟨by first | rfl | simp, HF.out⟩
set_option maxRecDepth 100000 in
set_option maxHeartbeats 6400000 in
theorem one5 (i k : Int) (m : Msg) (hk : k ≤ 9223372036854775807) (h : Both wH.heap.size w g g2 fs lost c) (hc : c ≤ 1000) :
    Calls Tryd.prog 39 #[.pointer (some ⟨g, 0, none⟩), .pointer (some ⟨g2, 0, none⟩), .agg (opCells 5 i k m)] w (OnePost wH.heap.size w g g2 c) := by
  have hHw := h.hHw
  have B0 := Blk.new w 63 (opCells 5 i k m)
  have D0 := (Below.refl w.heap.size w).alloc (Nat.le_refl _) (.cells (opCells 5 i k m) 63)
  obtain ⟨E, hC⟩ := spoil_both i k hk h D0
  have HC := Lib.hid hC
  have HB := Lib.hid B0
  clear hC B0 h D0
  unfold opCells at HC HB ⊢
  go_enter Tryd.func39, Tryd.ntmps39
  go_wp2_with fail
  refine HC.out.mono ?_
  rintro e w1 ⟨rfl, hk1, hN⟩
  have B1 : Blk w1 w.heap.size _ _ := (hk1 _ (Nat.le_refl _) (by simp)).trans HB.out
  have z1 : w1.cell? ⟨w.heap.size, 1, none⟩ = some (.int .i64 i) := B1.cell 1
  have z2 : w1.cell? ⟨w.heap.size, 2, none⟩ = some (.int .i64 k) := B1.cell 2
  have HN := Lib.hid (hN w1 (Below.refl _ _))
  clear hN hk1 B1 HC HB
  go_wp2_with fail
  refine HN.out.mono ?_
  rintro e w2 ⟨rfl, hn⟩
  have HF := Lib.hid (Next.box hHw hn)
  clear hn HN
  go_wp2
  go_ret
  exact ⟨by first | rfl | simp, HF.out⟩
set_option maxRecDepth 100000 in
set_option maxHeartbeats 6400000 in
theorem one6 (i k : Int) (m : Msg) (hi : -9223372036854775808 ≤ i ∧ i ≤ 9223372036854775807) (hk : -9223372036854775808 ≤ k ∧ k ≤ 9223372036854775807) (h : Both wH.heap.size w g g2 fs lost c) (hc : c ≤ 1000) :
    Calls Tryd.prog 39 #[.pointer (some ⟨g, 0, none⟩), .pointer (some ⟨g2, 0, none⟩), .agg (opCells 6 i k m)] w (OnePost wH.heap.size w g g2 c) := by
  have hHw := h.hHw
  have B0 := Blk.new w 63 (opCells 6 i k m)
  have D0 := (Below.refl w.heap.size w).alloc (Nat.le_refl _) (.cells (opCells 6 i k m) 63)
  have hC := cut_both i k true hi hk h hc D0
  have HC := Lib.hid hC
  have HB := Lib.hid B0
  clear hC B0 h D0
  unfold opCells at HC HB ⊢
  go_enter Tryd.func39, Tryd.ntmps39
  go_wp2_with fail
  refine HC.out.mono ?_
  rintro e w1 ⟨rfl, hk1, hN⟩
  have B1 : Blk w1 w.heap.size _ _ := (hk1 _ (Nat.le_refl _) (by simp)).trans HB.out
  have z1 : w1.cell? ⟨w.heap.size, 1, none⟩ = some (.int .i64 i) := B1.cell 1
  have z2 : w1.cell? ⟨w.heap.size, 2, none⟩ = some (.int .i64 k) := B1.cell 2
  have HN := Lib.hid (hN w1 (Below.refl _ _))
  clear hN hk1 B1 HC HB
  go_wp2_with fail
  refine HN.out.mono ?_
  rintro e w2 ⟨rfl, hn⟩
  have HF := Lib.hid (Next.box hHw hn)
  clear hn HN
  go_wp2
  go_ret
  exact ⟨by first | rfl | simp, HF.out⟩
set_option maxRecDepth 100000 in
set_option maxHeartbeats 6400000 in
theorem one7 (i k : Int) (m : Msg) (hi : -9223372036854775808 ≤ i ∧ i ≤ 9223372036854775807) (hk : -9223372036854775808 ≤ k ∧ k ≤ 9223372036854775807) (h : Both wH.heap.size w g g2 fs lost c) (hc : c ≤ 1000) :
    Calls Tryd.prog 39 #[.pointer (some ⟨g, 0, none⟩), .pointer (some ⟨g2, 0, none⟩), .agg (opCells 7 i k m)] w (OnePost wH.heap.size w g g2 c) := by
  have hHw := h.hHw
  have B0 := Blk.new w 63 (opCells 7 i k m)
  have D0 := (Below.refl w.heap.size w).alloc (Nat.le_refl _) (.cells (opCells 7 i k m) 63)
  have hC := cut_both i k false hi hk h hc D0
  have HC := Lib.hid hC
  have HB := Lib.hid B0
  clear hC B0 h D0
  unfold opCells at HC HB ⊢
  go_enter Tryd.func39, Tryd.ntmps39
  go_wp2_with fail
  refine HC.out.mono ?_
  rintro e w1 ⟨rfl, hk1, hN⟩
  have B1 : Blk w1 w.heap.size _ _ := (hk1 _ (Nat.le_refl _) (by simp)).trans HB.out
  have z1 : w1.cell? ⟨w.heap.size, 1, none⟩ = some (.int .i64 i) := B1.cell 1
  have z2 : w1.cell? ⟨w.heap.size, 2, none⟩ = some (.int .i64 k) := B1.cell 2
  have HN := Lib.hid (hN w1 (Below.refl _ _))
  clear hN hk1 B1 HC HB
  go_wp2_with fail
  refine HN.out.mono ?_
  rintro e w2 ⟨rfl, hn⟩
  have HF := Lib.hid (Next.box hHw hn)
  clear hn HN
  go_wp2
  go_ret
  exact ⟨by first | rfl | simp, HF.out⟩
end
end Go.Proofs.YtciolppoanfiaaaDoor

/- One step of both bags: Send, Deliver, none (written by gen_bagone2.py). -/
namespace Go.Proofs.YtciolppoanfiaaaDoor
open Go.RowKit
section
variable {wH w : World} {g g2 : Nat} {fs : List (List UInt8)} {lost c : Nat}
theorem Next.more {H : Nat} {w2 w3 : World} {o : Obj} (h : Next H w w2 g g2 c) (hH : H ≤ w.heap.size) (hb : Below (w2.alloc o).heap.size (w2.alloc o) w3) : Next H w w3 g g2 c := by
  have hb2 : Below w2.heap.size w2 w3 := ((Below.refl _ w2).alloc (Nat.le_refl _) o).trans (hb.mono (by simp))
  obtain ⟨h1, fs', lost', h2⟩ := h
  exact ⟨h1.trans (hb2.mono (Nat.le_trans hH h1.size)), fs', lost', h2.after hb2⟩
set_option maxRecDepth 100000 in
set_option maxHeartbeats 6400000 in
theorem one1 (i k : Int) (m : Msg) (hm : IsMsg wH m) (hf : m.plain.fits) (hT : Tab wH) (hH : 0 < wH.heap.size) (hB : Below wH.heap.size wH w) (h : Both wH.heap.size w g g2 fs lost c) (hc : c ≤ 1000) :
    Calls Tryd.prog 39 #[.pointer (some ⟨g, 0, none⟩), .pointer (some ⟨g2, 0, none⟩), .agg (opCells 1 i k m)] w (OnePost wH.heap.size w g g2 c) := by
  have hHw := h.hHw
  have B0 := Blk.new w 63 (opCells 1 i k m)
  have D0 := (Below.refl w.heap.size w).alloc (Nat.le_refl _) (.cells (opCells 1 i k m) 63)
  obtain ⟨E, hC⟩ := send_both m hm hf hT hH h hc (hB.trans (D0.mono hHw)) D0
  have HC := Lib.hid hC
  have HB := Lib.hid B0
  clear hC B0 h D0 hm hf
  unfold opCells at HC HB ⊢
  simp only [Msg.v, mcells] at HC
  go_enter Tryd.func39, Tryd.ntmps39
  go_wp2_with fail
  refine HC.out.mono ?_
  rintro e w1 ⟨rfl, hk1, hN⟩
  have B1 : Blk w1 w.heap.size _ _ := (hk1 _ (Nat.le_refl _) (by simp)).trans HB.out
  have z0 : w1.cell? ⟨w.heap.size, 3, none⟩ = some (.int .i64 m.k) := B1.cell 3
  have z1 : w1.cell? ⟨w.heap.size, 4, none⟩ = some (.int .i64 m.f) := B1.cell 4
  have z2 : w1.cell? ⟨w.heap.size, 5, none⟩ = some (.int .i64 m.t) := B1.cell 5
  have z3 : w1.cell? ⟨w.heap.size, 6, none⟩ = some (.int .u64 (m.te : Int)) := B1.cell 6
  have z4 : w1.cell? ⟨w.heap.size, 7, none⟩ = some (.int .u64 (m.ix : Int)) := B1.cell 7
  have z5 : w1.cell? ⟨w.heap.size, 8, none⟩ = some (.int .u64 (m.pr : Int)) := B1.cell 8
  have z6 : w1.cell? ⟨w.heap.size, 9, none⟩ = some (.int .u64 (m.co : Int)) := B1.cell 9
  have z7 : w1.cell? ⟨w.heap.size, 10, none⟩ = some (.bool m.ok) := B1.cell 10
  have z8 : w1.cell? ⟨w.heap.size, 11, none⟩ = some (.slice m.dA m.d.length m.dc) := B1.cell 11
  have z9 : w1.cell? ⟨w.heap.size, 12, none⟩ = some (.slice m.eA m.es.length m.ec) := B1.cell 12
  have HN := Lib.hid (hN w1 (Below.refl _ _))
  clear hN hk1 B1 HC HB
  go_wp2_with fail
  refine HN.out.mono ?_
  rintro e w2 ⟨rfl, hn⟩
  have HF := Lib.hid (Next.box hHw hn)
  clear hn HN
  go_wp2
  go_ret
  exact ⟨by first | rfl | simp, HF.out⟩
set_option maxRecDepth 100000 in
set_option maxHeartbeats 6400000 in
theorem one2 (i k : Int) (m : Msg) (hT : Tab wH) (hH : 0 < wH.heap.size) (hB : Below wH.heap.size wH w) (h : Both wH.heap.size w g g2 fs lost c) (hc : c ≤ 1000) :
    Calls Tryd.prog 39 #[.pointer (some ⟨g, 0, none⟩), .pointer (some ⟨g2, 0, none⟩), .agg (opCells 2 i k m)] w (OnePost wH.heap.size w g g2 c) := by
  have hHw := h.hHw
  have B0 := Blk.new w 63 (opCells 2 i k m)
  have D0 := (Below.refl w.heap.size w).alloc (Nat.le_refl _) (.cells (opCells 2 i k m) 63)
  obtain ⟨E, P, hC⟩ := deliver_both i hT hH h hc (hB.trans (D0.mono hHw)) D0
  have HC := Lib.hid hC
  have HB := Lib.hid B0
  clear hC B0 h D0
  unfold opCells at HC HB ⊢
  go_enter Tryd.func39, Tryd.ntmps39
  go_wp2_with fail
  refine HC.out.mono ?_
  rintro e w1 ⟨m1, rfl, hm1, him1, hk1, hN⟩
  have B1 : Blk w1 w.heap.size _ _ := (hk1 _ (Nat.le_refl _) (by simp)).trans HB.out
  have z1 : w1.cell? ⟨w.heap.size, 1, none⟩ = some (.int .i64 i) := B1.cell 1
  have hl1 := B1.lt
  have HB1 := Lib.hid B1
  have HM1 := Lib.hid hm1
  have HI1 := Lib.hid him1
  have HN := Lib.hid hN
  clear hN hk1 B1 HC HB hm1 him1
  simp only [Msg.v, mcells] at HN ⊢
  go_wp2_with fail
  refine (HN.out _ ((Below.refl _ _).alloc (Nat.le_refl _) _)).mono ?_
  rintro e w2 ⟨m2, rfl, hm2, him2, him1, hk2, hn⟩
  have B2 : Blk w2 w1.heap.size _ _ := (hk2 _ (Nat.le_of_lt hl1) (by simp)).trans (Blk.new w1 41 #[.int .i64 m1.k, .int .i64 m1.f, .int .i64 m1.t, .int .u64 (m1.te : Int), .int .u64 (m1.ix : Int), .int .u64 (m1.pr : Int), .int .u64 (m1.co : Int), .bool m1.ok, .slice m1.dA m1.d.length m1.dc, .slice m1.eA m1.es.length m1.ec])
  have y0 : w2.cell? ⟨w1.heap.size, 0, none⟩ = some (.int .i64 m1.k) := B2.cell 0
  have y1 : w2.cell? ⟨w1.heap.size, 1, none⟩ = some (.int .i64 m1.f) := B2.cell 1
  have y2 : w2.cell? ⟨w1.heap.size, 2, none⟩ = some (.int .i64 m1.t) := B2.cell 2
  have y3 : w2.cell? ⟨w1.heap.size, 3, none⟩ = some (.int .u64 (m1.te : Int)) := B2.cell 3
  have y4 : w2.cell? ⟨w1.heap.size, 4, none⟩ = some (.int .u64 (m1.ix : Int)) := B2.cell 4
  have y5 : w2.cell? ⟨w1.heap.size, 5, none⟩ = some (.int .u64 (m1.pr : Int)) := B2.cell 5
  have y6 : w2.cell? ⟨w1.heap.size, 6, none⟩ = some (.int .u64 (m1.co : Int)) := B2.cell 6
  have y7 : w2.cell? ⟨w1.heap.size, 7, none⟩ = some (.bool m1.ok) := B2.cell 7
  have y8 : w2.cell? ⟨w1.heap.size, 8, none⟩ = some (.slice m1.dA m1.d.length m1.dc) := B2.cell 8
  have y9 : w2.cell? ⟨w1.heap.size, 9, none⟩ = some (.slice m1.eA m1.es.length m1.ec) := B2.cell 9
  have hl2 := B2.lt
  have HF := Lib.hid (Next.box hHw hn)
  have HIA := Lib.hid him1
  have HIB := Lib.hid him2
  have HPP := Lib.hid (HM1.out.trans hm2.symm)
  clear hn HN hm2 him1 him2 hk2 B2 z1 HB1 HM1 HI1
  go_wp2_with fail
  have hs := msgsame_any m1 m2 _ (HIA.out.after ((Below.refl _ _).alloc (Nat.le_refl _) (.cells #[.int .i64 m2.k, .int .i64 m2.f, .int .i64 m2.t, .int .u64 (m2.te : Int), .int .u64 (m2.ix : Int), .int .u64 (m2.pr : Int), .int .u64 (m2.co : Int), .bool m2.ok, .slice m2.dA m2.d.length m2.dc, .slice m2.eA m2.es.length m2.ec] 41))) (HIB.out.after ((Below.refl _ _).alloc (Nat.le_refl _) _)) (b := true) ⟨fun _ => rfl, fun _ => HPP.out⟩
  simp only [Msg.v, mcells] at hs
  refine hs.mono ?_
  rintro e w3 ⟨rfl, hb3⟩
  have HN3 := Lib.hid (Next.more HF.out hHw hb3)
  clear hb3 hs HF
  go_wp2
  go_ret
  exact ⟨by first | rfl | simp, HN3.out⟩
set_option maxRecDepth 100000 in
set_option maxHeartbeats 6400000 in
theorem one0 (i k : Int) (m : Msg) (d : Int) (h1 : d ≠ 1) (h2 : d ≠ 2) (h3 : d ≠ 3) (h4 : d ≠ 4) (h5 : d ≠ 5) (h6 : d ≠ 6) (h7 : d ≠ 7) (h : Both wH.heap.size w g g2 fs lost c) (hc : c ≤ 1000) :
    Calls Tryd.prog 39 #[.pointer (some ⟨g, 0, none⟩), .pointer (some ⟨g2, 0, none⟩), .agg (opCells d i k m)] w (OnePost wH.heap.size w g g2 c) := by
  have HH := Lib.hid h
  clear h
  have e1 : (d == 1) = false := beq_false_of_ne h1
  have e2 : (d == 2) = false := beq_false_of_ne h2
  have e3 : (d == 3) = false := beq_false_of_ne h3
  have e4 : (d == 4) = false := beq_false_of_ne h4
  have e5 : (d == 5) = false := beq_false_of_ne h5
  have e6 : (d == 6) = false := beq_false_of_ne h6
  have e7 : (d == 7) = false := beq_false_of_ne h7
  unfold opCells
  go_enter Tryd.func39, Tryd.ntmps39
  go_wp2
  go_ret
  exact ⟨rfl, Next.box HH.out.hHw (Next.same HH.out ((Below.refl _ _).alloc (Nat.le_refl _) _) (Below.refl _ _))⟩
end
end Go.Proofs.YtciolppoanfiaaaDoor

/- What is done to a bag: the row of operations; one's contract. -/
namespace Go.Proofs.YtciolppoanfiaaaDoor
open Go.RowKit
structure BOp where
  d : Int
  i : Int
  k : Int
  m : Msg
def BOp.cells (o : BOp) : List Value := [.int .i64 o.d, .int .i64 o.i, .int .i64 o.k, .int .i64 o.m.k, .int .i64 o.m.f, .int .i64 o.m.t, .int .u64 (o.m.te : Int), .int .u64 (o.m.ix : Int), .int .u64 (o.m.pr : Int), .int .u64 (o.m.co : Int), .bool o.m.ok, .slice o.m.dA o.m.d.length o.m.dc, .slice o.m.eA o.m.es.length o.m.ec]
theorem BOp.cells_op (o : BOp) : o.cells.toArray = opCells o.d o.i o.k o.m := rfl
def opscells (os : List BOp) : List Value := os.flatMap BOp.cells
theorem opscells_len (os : List BOp) : (opscells os).length = os.length * 13 := by
  induction os with
  | nil => rfl
  | cons o os ih =>
    have e : opscells (o :: os) = o.cells ++ opscells os := rfl
    rw [e, List.length_append, ih, List.length_cons]
    show 13 + _ = _
    omega
theorem opscells_at (os : List BOp) (k j : Nat) (o : BOp) (u : Value) (h : os[k]? = some o) (hu : o.cells[j]? = some u) : (opscells os)[k * 13 + j]? = some u := by
  induction os generalizing k with
  | nil => cases h
  | cons x os ih =>
    have e : opscells (x :: os) = x.cells ++ opscells os := rfl
    have hl : x.cells.length = 13 := rfl
    rw [e]
    cases k with
    | zero =>
      obtain rfl : x = o := by simpa using h
      have hj : j < 13 := by have := (List.getElem?_eq_some_iff.1 hu).1; rw [hl] at this; exact this
      rw [List.getElem?_append_left (by rw [hl]; omega), Nat.zero_mul, Nat.zero_add]
      exact hu
    | succ k =>
      rw [List.getElem?_append_right (by rw [hl]; omega), hl, show (k + 1) * 13 + j - 13 = k * 13 + j by omega]
      exact ih k (by simpa using h)
theorem Sl.bopAt {w : World} {lo hi n c k : Nat} {ad : Addr} {os : List BOp} {o : BOp} (h : Sl w lo hi 13 (some ad) n c (opscells os)) (ho : os[k]? = some o) :
    w.cell? (ad.add (k * 13)) = some (.int .i64 o.d) ∧ ∀ j u, o.cells[j]? = some u → w.cell? ⟨(ad.add (k * 13)).block, (ad.add (k * 13)).off + j, none⟩ = some u := by
  have hl : k < os.length := (List.getElem?_eq_some_iff.1 ho).1
  have hk : k < n := by have := h.len; rw [opscells_len] at this; omega
  obtain ⟨ad', e, _, _, hc⟩ := h.at_ (by omega)
  injection e with e
  subst e
  have a0 : w.cell? (ad.add (k * 13)) = some (.int .i64 o.d) := hc _ _ (opscells_at os k 0 o _ ho rfl)
  exact ⟨a0, fun j u hu => by rw [← add_off a0, add_of_add]; exact hc _ _ (opscells_at os k j o u ho hu)⟩
/-- an operation that can be read -/
structure BOp.In (w : World) (o : BOp) : Prop where
  msg : IsMsg w o.m
  fits : o.m.plain.fits
  i : -9223372036854775808 ≤ o.i ∧ o.i ≤ 9223372036854775807
  k : -9223372036854775808 ≤ o.k ∧ o.k ≤ 9223372036854775807
section
variable {wH w : World} {g g2 : Nat} {fs : List (List UInt8)} {lost c : Nat}
theorem one_any (o : BOp) (ho : o.In wH) (hT : Tab wH) (hH : 0 < wH.heap.size) (hB : Below wH.heap.size wH w) (h : Both wH.heap.size w g g2 fs lost c) (hc : c ≤ 1000) :
    Calls Tryd.prog 39 #[.pointer (some ⟨g, 0, none⟩), .pointer (some ⟨g2, 0, none⟩), .agg (opCells o.d o.i o.k o.m)] w (OnePost wH.heap.size w g g2 c) := by
  obtain ⟨d, i, k, m⟩ := o
  obtain ⟨hm, hf, hi, hk⟩ := ho
  simp only at hm hf hi hk ⊢
  by_cases h1 : d = 1
  · subst h1; exact one1 i k m hm hf hT hH hB h hc
  by_cases h2 : d = 2
  · subst h2; exact one2 i k m hT hH hB h hc
  by_cases h3 : d = 3
  · subst h3; exact one3 i k m h hc
  by_cases h4 : d = 4
  · subst h4; exact one4 i k m h hc
  by_cases h5 : d = 5
  · subst h5; exact one5 i k m hk.2 h hc
  by_cases h6 : d = 6
  · subst h6; exact one6 i k m hi hk h hc
  by_cases h7 : d = 7
  · subst h7; exact one7 i k m hi hk h hc
  exact one0 i k m d h1 h2 h3 h4 h5 h6 h7 h hc
end
end Go.Proofs.YtciolppoanfiaaaDoor

/- BagPlays (written by gen_bagplays.py). -/
namespace Go.Proofs.YtciolppoanfiaaaDoor
open Go.RowKit
set_option maxRecDepth 100000 in
set_option maxHeartbeats 6400000 in
theorem bagPlays_any (w : World) (os : List BOp) {A : Option Addr} {c lo hi : Nat} (hs : Sl w lo hi 13 A os.length c (opscells os)) (hm : ∀ o ∈ os, o.In w) (hT : Tab w) (hH0 : 0 < w.heap.size) :
    Calls Tryd.prog 10 #[.slice A os.length c] w fun e w' => e = .returned (.bool true) ∧ Below w.heap.size w w' := by
  obtain ⟨N, hN⟩ : ∃ N, os.length = N := ⟨_, rfl⟩
  rw [hN] at hs ⊢
  have hNmax : N ≤ 9223372036854775807 := Nat.le_trans hs.cap hs.max
  have HN := Lib.hid hN
  have HS := Lib.hid hs
  have HM := Lib.hid hm
  clear hN hs hm
  go_enter Tryd.func10, Tryd.ntmps10
  go_wp2_with fail
  refine (awake7_any _ hT hH0).mono ?_
  rintro e w1 ⟨rfl, b1⟩
  go_wp2_with fail
  refine (bnew_any w.heap.size _ b1.size).mono ?_
  rintro e w2 ⟨g, O0, rfl, hB0, hO0, b2⟩
  have hb0 := b1.trans (b2.mono b1.size)
  have hst : Both w.heap.size (w2.alloc (.cells #[.slice none 0 0, .slice none 0 0, .int .i64 0] 60)) g w2.heap.size [] 0 0 :=
    ⟨Nat.le_trans hb0.size (by simp), ⟨O0, fun k => k = w2.heap.size, [], [], [], hB0.alloc _, ⟨fun b hb => by rw [hb]; simp, rfl, none, 0, none, 0, Blk.new w2 _ _, ⟨Sl.nil_ _ _ _ _, fun ad h => by cases h⟩, ⟨Sl.nil_ _ _ _ _, fun ad h => by cases h⟩, fun f hf => by cases hf⟩, rfl, fun k hk => ⟨by rw [hk]; exact hb0.size, fun hO => by have := hB0.top k hO; omega⟩, Keys.nil, Nat.le_refl _⟩, by decide, (fun l hl => by cases hl), Nat.le_refl _⟩
  have hb3 := hb0.alloc hb0.size (.cells #[.slice none 0 0, .slice none 0 0, .int .i64 0] 60)
  have HST := Lib.hid hst
  have HB3 := Lib.hid hb3
  clear hst hb3 hB0 hO0 b1 b2 hb0
  by_cases h100 : 100 < N
  · have k100 : decide (100 < N) = true := decide_eq_true h100
    go_wp2
    go_ret
    exact ⟨rfl, HB3.out⟩
  · have k100 : decide (100 < N) = false := decide_eq_false h100
    go_wp2
    go_loopw [6] (fun i wr => ∃ (k : Nat) (fs : List (List UInt8)) (lost : Nat), k ≤ N ∧ i = .int .i64 k ∧ Both w.heap.size wr g w2.heap.size fs lost k ∧ Below w.heap.size w wr) (fun i _ => N - (intOf i).toNat)
    case atStart => exact ⟨0, [], 0, Nat.zero_le _, rfl, HST.out, HB3.out⟩
    case round =>
      clear HST HB3
      obtain ⟨k, fs, lost, hk, rfl, hB, hbr⟩ := hrel
      by_cases hkn : k < N
      · have hkn' : (k : Int) < (N : Int) := by omega
        have hsr := HS.out.after (by decide) hbr
        obtain ⟨ad, rfl⟩ : ∃ ad, A = some ad := by obtain ⟨ad, e, _⟩ := hsr.at_ (by omega); exact ⟨ad, e⟩
        obtain ⟨o, hok⟩ : ∃ o, os[k]? = some o := ⟨_, List.getElem?_eq_getElem (by rw [HN.out]; exact hkn)⟩
        obtain ⟨y0, hc13⟩ := hsr.bopAt hok
        have y1 : wr.cell? ⟨(ad.add (k * 13)).block, (ad.add (k * 13)).off + 1, none⟩ = some (.int .i64 o.i) := hc13 1 _ rfl
        have y2 : wr.cell? ⟨(ad.add (k * 13)).block, (ad.add (k * 13)).off + 2, none⟩ = some (.int .i64 o.k) := hc13 2 _ rfl
        have y3 : wr.cell? ⟨(ad.add (k * 13)).block, (ad.add (k * 13)).off + 3, none⟩ = some (.int .i64 o.m.k) := hc13 3 _ rfl
        have y4 : wr.cell? ⟨(ad.add (k * 13)).block, (ad.add (k * 13)).off + 4, none⟩ = some (.int .i64 o.m.f) := hc13 4 _ rfl
        have y5 : wr.cell? ⟨(ad.add (k * 13)).block, (ad.add (k * 13)).off + 5, none⟩ = some (.int .i64 o.m.t) := hc13 5 _ rfl
        have y6 : wr.cell? ⟨(ad.add (k * 13)).block, (ad.add (k * 13)).off + 6, none⟩ = some (.int .u64 (o.m.te : Int)) := hc13 6 _ rfl
        have y7 : wr.cell? ⟨(ad.add (k * 13)).block, (ad.add (k * 13)).off + 7, none⟩ = some (.int .u64 (o.m.ix : Int)) := hc13 7 _ rfl
        have y8 : wr.cell? ⟨(ad.add (k * 13)).block, (ad.add (k * 13)).off + 8, none⟩ = some (.int .u64 (o.m.pr : Int)) := hc13 8 _ rfl
        have y9 : wr.cell? ⟨(ad.add (k * 13)).block, (ad.add (k * 13)).off + 9, none⟩ = some (.int .u64 (o.m.co : Int)) := hc13 9 _ rfl
        have y10 : wr.cell? ⟨(ad.add (k * 13)).block, (ad.add (k * 13)).off + 10, none⟩ = some (.bool o.m.ok) := hc13 10 _ rfl
        have y11 : wr.cell? ⟨(ad.add (k * 13)).block, (ad.add (k * 13)).off + 11, none⟩ = some (.slice o.m.dA o.m.d.length o.m.dc) := hc13 11 _ rfl
        have y12 : wr.cell? ⟨(ad.add (k * 13)).block, (ad.add (k * 13)).off + 12, none⟩ = some (.slice o.m.eA o.m.es.length o.m.ec) := hc13 12 _ rfl
        have HC := Lib.hid (one_any o (HM.out o (List.mem_of_getElem? hok)) hT hH0 hbr hB (by omega))
        have HBR := Lib.hid hbr
        clear hc13 hsr hok hB hbr
        unfold opCells at HC
        go_wp2_with fail
        refine HC.out.mono ?_
        rintro e w3 ⟨rfl, hb3, fs', lost', hB3⟩
        have hbr3 := HBR.out.trans hb3
        have HB3 := Lib.hid hB3
        have HBR3 := Lib.hid hbr3
        clear HC HBR hb3 hbr3 y0 y1 y2 y3 y4 y5 y6 y7 y8 y9 y10 y11 y12
        obtain ⟨-, ⟨O, S, ks, F, cs, hba, hrb, hF, -, -, -⟩, -, -, -⟩ := hB3
        obtain ⟨n, hn⟩ : ∃ n, fs'.length = n := ⟨_, rfl⟩
        have hFl : F.length = n := by rw [← hn, ← hF]; simp
        have hn60 : n ≤ 60 := by rw [← hn]; exact HB3.out.few
        have hln := blen_any _ hba
        have hlo := blost_any _ hba
        obtain ⟨-, -, Af, cf, Ac, cc, hbk, -, -, -⟩ := hrb
        rw [hFl] at hbk
        rw [hn] at hln
        obtain ⟨z0, z1, z2⟩ := hbk.c3
        have HLN := Lib.hid hln
        have HLO := Lib.hid hlo
        clear hba hbk hF hFl hn hln hlo z1
        go_wp2_with fail
        refine HLN.out.mono ?_
        rintro e _ ⟨rfl, rfl⟩
        go_wp2_with fail
        refine HLO.out.mono ?_
        rintro e _ ⟨rfl, rfl⟩
        clear HLN HLO
        go_wp2
        clear z0 z2
        go_loopw [10] (fun i wr => ∃ z : Int, -1 ≤ z ∧ z ≤ (n : Int) + 1 ∧ i = .int .i64 z ∧ Below w3.heap.size w3 wr) (fun i _ => ((n : Int) + 1 - intOf i).toNat)
        case atStart => exact ⟨-1, by omega, by omega, rfl, Below.refl _ _⟩
        case round =>
          obtain ⟨z, hz1, hz2, rfl, hb4⟩ := hrel
          by_cases hzn : z ≤ (n : Int)
          · have hzn' : decide (z ≤ (n : Int)) = true := decide_eq_true hzn
            obtain ⟨E, P, hL⟩ := look_both z hT hH0 (HB3.out.after hb4) (HBR3.out.trans (hb4.mono HBR3.out.size))
            have HL := Lib.hid hL
            have HB4 := Lib.hid hb4
            clear hL hb4
            simp only [Msg.v, mcells] at HL
            go_wp2_with fail
            refine HL.out.mono ?_
            rintro e w4 ⟨m1, rfl, hm1, him1, hb4', hN⟩
            have hb4w := HB4.out.trans (hb4'.mono HB4.out.size)
            have HN2 := Lib.hid hN
            have HB4W := Lib.hid hb4w
            have HM1 := Lib.hid hm1
            have HI1 := Lib.hid him1
            clear hN hb4' hb4w hm1 him1 HL HB4
            go_wp2_with fail
            refine (HN2.out _ ((Below.refl _ _).alloc (Nat.le_refl _) _)).mono ?_
            rintro e w5 ⟨m2, rfl, hm2, him2, hb5⟩
            have B5 := (Blk.new w4 41 #[.int .i64 m1.k, .int .i64 m1.f, .int .i64 m1.t, .int .u64 (m1.te : Int), .int .u64 (m1.ix : Int), .int .u64 (m1.pr : Int), .int .u64 (m1.co : Int), .bool m1.ok, .slice m1.dA m1.d.length m1.dc, .slice m1.eA m1.es.length m1.ec]).after hb5
            have x0 : w5.cell? ⟨w4.heap.size, 0, none⟩ = some (.int .i64 m1.k) := B5.cell 0
            have x1 : w5.cell? ⟨w4.heap.size, 1, none⟩ = some (.int .i64 m1.f) := B5.cell 1
            have x2 : w5.cell? ⟨w4.heap.size, 2, none⟩ = some (.int .i64 m1.t) := B5.cell 2
            have x3 : w5.cell? ⟨w4.heap.size, 3, none⟩ = some (.int .u64 (m1.te : Int)) := B5.cell 3
            have x4 : w5.cell? ⟨w4.heap.size, 4, none⟩ = some (.int .u64 (m1.ix : Int)) := B5.cell 4
            have x5 : w5.cell? ⟨w4.heap.size, 5, none⟩ = some (.int .u64 (m1.pr : Int)) := B5.cell 5
            have x6 : w5.cell? ⟨w4.heap.size, 6, none⟩ = some (.int .u64 (m1.co : Int)) := B5.cell 6
            have x7 : w5.cell? ⟨w4.heap.size, 7, none⟩ = some (.bool m1.ok) := B5.cell 7
            have x8 : w5.cell? ⟨w4.heap.size, 8, none⟩ = some (.slice m1.dA m1.d.length m1.dc) := B5.cell 8
            have x9 : w5.cell? ⟨w4.heap.size, 9, none⟩ = some (.slice m1.eA m1.es.length m1.ec) := B5.cell 9
            have hl5 := B5.lt
            have hb5' := ((Below.refl _ w4).alloc (Nat.le_refl _) (.cells #[.int .i64 m1.k, .int .i64 m1.f, .int .i64 m1.t, .int .u64 (m1.te : Int), .int .u64 (m1.ix : Int), .int .u64 (m1.pr : Int), .int .u64 (m1.co : Int), .bool m1.ok, .slice m1.dA m1.d.length m1.dc, .slice m1.eA m1.es.length m1.ec] 41)).trans (hb5.mono (by simp))
            have HB5 := Lib.hid (HB4W.out.trans (hb5'.mono HB4W.out.size))
            have HIA := Lib.hid (HI1.out.after hb5')
            have HIB := Lib.hid him2
            have HPP := Lib.hid (HM1.out.trans hm2.symm)
            clear hm2 him2 hb5 hb5' B5 HN2 HB4W HM1 HI1
            go_wp2_with fail
            have hs := msgsame_any m1 m2 _ (HIA.out.after ((Below.refl _ _).alloc (Nat.le_refl _) (.cells #[.int .i64 m2.k, .int .i64 m2.f, .int .i64 m2.t, .int .u64 (m2.te : Int), .int .u64 (m2.ix : Int), .int .u64 (m2.pr : Int), .int .u64 (m2.co : Int), .bool m2.ok, .slice m2.dA m2.d.length m2.dc, .slice m2.eA m2.es.length m2.ec] 41))) (HIB.out.after ((Below.refl _ _).alloc (Nat.le_refl _) _)) (b := true) ⟨fun _ => rfl, fun _ => HPP.out⟩
            simp only [Msg.v, mcells] at hs
            refine hs.mono ?_
            rintro e w6 ⟨rfl, hb6⟩
            have hb6' := ((Below.refl _ w5).alloc (Nat.le_refl _) (.cells #[.int .i64 m2.k, .int .i64 m2.f, .int .i64 m2.t, .int .u64 (m2.te : Int), .int .u64 (m2.ix : Int), .int .u64 (m2.pr : Int), .int .u64 (m2.co : Int), .bool m2.ok, .slice m2.dA m2.d.length m2.dc, .slice m2.eA m2.es.length m2.ec] 41)).trans (hb6.mono (by simp))
            have HB6 := Lib.hid (HB5.out.trans (hb6'.mono HB5.out.size))
            have hwz : IntKind.i64.wrap (z + 1) = z + 1 := by rw [IntKind.wrap_i64]; omega
            clear hs hb6 hb6' HB5
            go_wp2
            go_roundw
            case rel => exact ⟨z + 1, by omega, by omega, by first | rfl | rw [hwz], HB6.out⟩
            case measure => simp [intOf]; omega
          · have hzn' : decide (z ≤ (n : Int)) = false := decide_eq_false hzn
            have HB4 := Lib.hid hb4
            clear hb4
            go_wp2
            go_roundw
            case rel => exact ⟨k + 1, fs', lost', by omega, rfl, HB3.out.after HB4.out, HBR3.out.trans (HB4.out.mono HBR3.out.size)⟩
            case measure => simp [intOf]; omega
      · obtain rfl : k = N := by omega
        have HBR := Lib.hid hbr
        clear hB hbr
        go_wp2
        go_ret
        exact ⟨rfl, HBR.out⟩
end Go.Proofs.YtciolppoanfiaaaDoor
