import Derived.Test.YtciolppoanfiaaaWAwake3
import Derived.Test.YtciolppoanfiaaaXMsgSame
import Derived.Test.YtciolppoanfiaaaPKitW
namespace Go.Proofs.Ytciolppoanfiaaa
open Go.RowKit

theorem IsMsg.drewN {w : World} {m : Msg} (h : IsMsg w m) (q : Nat) : IsMsg (w.drewN q) m :=
  ⟨by obtain ⟨lo, hi, hs⟩ := h.data; exact ⟨lo, hi, hs.drewN q⟩, by obtain ⟨lo, hi, hs⟩ := h.ents; exact ⟨lo, hi, hs.drewN q⟩, h.bytes.drewN q⟩
theorem IsMsg.of {w : World} {k f t : Int} {te ix pr co : Nat} {ok : Bool} {dA : Option Addr} {dc : Nat} {d : List UInt8} {eA : Option Addr} {ec : Nat} {es : List Ent} (h : IsMsg w ⟨k, f, t, te, ix, pr, co, ok, dA, dc, d, eA, ec, es⟩) : d.length ≤ dc ∧ dc ≤ 9223372036854775807 ∧ es.length ≤ ec ∧ ec ≤ 9223372036854775807 := by
  obtain ⟨⟨_, _, h1⟩, ⟨_, _, h2⟩, _⟩ := h
  exact ⟨h1.cap, h1.max, h2.cap, h2.max⟩
set_option maxRecDepth 100000 in
set_option maxHeartbeats 4000000 in
theorem wireUnlike_any (w : World) {v v' : Value} {m n : Msg} (h₁ : v = m.v ∧ IsMsg w m ∧ m.plain.fits) (h₂ : v' = n.v ∧ IsMsg w n ∧ n.plain.fits) :
    Calls Try.prog 5 #[v, v'] w fun e w' => e = .returned (.bool true) ∧ Below w.heap.size w w' := by
  obtain ⟨rfl, hm, fm⟩ := h₁
  obtain ⟨rfl, hn, fn⟩ := h₂
  obtain ⟨c1, hc1⟩ : ∃ c, m.plain.check = c := ⟨_, rfl⟩
  obtain ⟨c2, hc2⟩ : ∃ c, n.plain.check = c := ⟨_, rfl⟩
  obtain ⟨l1, hl1⟩ : ∃ l, (if c1 = 0 then m.plain.enc else []) = l := ⟨_, rfl⟩
  obtain ⟨l2, hl2⟩ : ∃ l, (if c2 = 0 then n.plain.enc else []) = l := ⟨_, rfl⟩
  have hR : Hid (c1 = 0 → c2 = 0 → ∃ b, (l1 == l2) = b ∧ (m.plain = n.plain ↔ b = true)) := fun h1 h2 => by
    subst h1 h2
    rw [if_pos rfl] at hl1 hl2
    refine ⟨_, rfl, ?_⟩
    rw [beq_iff_eq, ← hl1, ← hl2]
    exact ⟨fun e => by rw [e], fun e => enc_inj hc1 hc2 fm fn e⟩
  have HC1 := Lib.hid hc1
  have HC2 := Lib.hid hc2
  have HL1 := Lib.hid hl1
  have HL2 := Lib.hid hl2
  obtain ⟨mv, hmv⟩ : ∃ x, m = x := ⟨_, rfl⟩
  obtain ⟨nv, hnv⟩ : ∃ x, n = x := ⟨_, rfl⟩
  have HMV := Lib.hid hmv
  have HNV := Lib.hid hnv
  have hmv2 := hmv
  have hnv2 := hnv
  rw [hmv, hnv]
  rw [hmv] at hm HC1 HL1 hR
  rw [hnv] at hn HC2 HL2 hR
  clear hc1 hc2 hl1 hl2 fm fn hmv hnv HMV HNV hmv2 hnv2 m n
  have cm : 0 < 1 := by omega
  obtain ⟨k, f, t, te, ix, pr, co, ok, dA, dc, d, eA, ec, es⟩ := mv
  obtain ⟨k₂, f₂, t₂, te₂, ix₂, pr₂, co₂, ok₂, dA₂, dc₂, d₂, eA₂, ec₂, es₂⟩ := nv
  simp only [Msg.v, mcells]
  obtain ⟨M1, hM1⟩ : ∃ M : Msg, M = ⟨k, f, t, te, ix, pr, co, ok, dA, dc, d, eA, ec, es⟩ := ⟨_, rfl⟩
  obtain ⟨M2, hM2⟩ : ∃ M : Msg, M = ⟨k₂, f₂, t₂, te₂, ix₂, pr₂, co₂, ok₂, dA₂, dc₂, d₂, eA₂, ec₂, es₂⟩ := ⟨_, rfl⟩
  have v1 : M1.v = .agg #[.int .i64 k, .int .i64 f, .int .i64 t, .int .u64 (te : Int), .int .u64 (ix : Int), .int .u64 (pr : Int), .int .u64 (co : Int), .bool ok, .slice dA d.length dc, .slice eA es.length ec] := by rw [hM1]; rfl
  have v2 : M2.v = .agg #[.int .i64 k₂, .int .i64 f₂, .int .i64 t₂, .int .u64 (te₂ : Int), .int .u64 (ix₂ : Int), .int .u64 (pr₂ : Int), .int .u64 (co₂ : Int), .bool ok₂, .slice dA₂ d₂.length dc₂, .slice eA₂ es₂.length ec₂] := by rw [hM2]; rfl
  rw [← hM1] at hm HC1 HL1 hR
  rw [← hM2] at hn HC2 HL2 hR
  have V1 := Lib.hid v1
  have V2 := Lib.hid v2
  clear hM1 hM2 v1 v2
  generalize hdn : d.length = dn at V1 ⊢
  generalize hen : es.length = en at V1 ⊢
  generalize hdn2 : d₂.length = dn2 at V2 ⊢
  generalize hen2 : es₂.length = en2 at V2 ⊢
  clear hdn hen hdn2 hen2
  go_enter Try.func5, Try.ntmps5
  go_wp2_with fail
  refine (awake3_any _).mono ?_
  rintro e w1 ⟨rfl, hb1⟩
  have B1 := ((Blk.new w 27 #[.int .i64 k, .int .i64 f, .int .i64 t, .int .u64 (te : Int), .int .u64 (ix : Int), .int .u64 (pr : Int), .int .u64 (co : Int), .bool ok, .slice dA dn dc, .slice eA en ec]).alloc _).after hb1
  have B2 := (Blk.new _ _ _).after hb1
  have Q1 := ((hm.alloc _).alloc _).after hb1
  have Q2 := ((hn.alloc _).alloc _).after hb1
  have D1 := (((Below.refl w.heap.size w).alloc (Nat.le_refl _) _).alloc (by simp) _).trans (hb1.mono (by simp; omega))
  rw [alloc_size] at B2
  clear hb1 hm hn
  obtain ⟨x0, x1, x2, x3, x4, x5, x6, x7, x8, x9⟩ := B1.c10
  go_wp2_with fail
  have E1 := encode_any M1 w1 Q1 HC1.out HL1.out
  rw [V1.out] at E1
  refine E1.mono ?_
  rintro e w2 ⟨A1, n1, rfl, u1, -, hb2⟩
  have B1' := B1.after hb2
  have B2' := B2.after hb2
  have Q1' := Q1.after hb2
  have Q2' := Q2.after hb2
  have D2 := D1.trans (hb2.mono D1.size)
  clear B1 B2 Q1 Q2 D1 hb2 E1 x0 x1 x2 x3 x4 x5 x6 x7 x8 x9
  obtain ⟨y0, y1, y2, y3, y4, y5, y6, y7, y8, y9⟩ := B2'.c10
  go_wp2_with fail
  have E2 := encode_any M2 w2 Q2' HC2.out HL2.out
  rw [V2.out] at E2
  refine E2.mono ?_
  rintro e w3 ⟨A2, n2, rfl, u2, -, hb3⟩
  have B1 := B1'.after hb3
  have B2 := B2'.after hb3
  have Q1 := Q1'.after hb3
  have Q2 := Q2'.after hb3
  have S1 := u1.after hb3
  have D3 := D2.trans (hb3.mono D2.size)
  clear B1' B2' Q1' Q2' u1 D2 hb3 E2 y0 y1 y2 y3 y4 y5 y6 y7 y8 y9
  obtain ⟨x0, x1, x2, x3, x4, x5, x6, x7, x8, x9⟩ := B1.c10
  obtain ⟨y0, y1, y2, y3, y4, y5, y6, y7, y8, y9⟩ := B2.c10
  by_cases h1 : c1 = 0
  · have n_1 : ((c1 : Int) != 0) = false := by simp [h1]
    by_cases h2 : c2 = 0
    · have n_2 : ((c2 : Int) != 0) = false := by simp [h2]
      obtain ⟨b, hS, hP⟩ := hR.out h1 h2
      have HS := Lib.hid hS
      have HP := Lib.hid hP
      clear hR HL1 HL2 hS hP HC1 HC2 h1 h2
      have S2 := u2
      generalize l1.length = p1 at S1 ⊢
      generalize l2.length = p2 at S2 u2 ⊢
      have E3 : Hid (∀ W, IsMsg W M1 → IsMsg W M2 → Calls Try.prog 9 #[.agg #[.int .i64 k, .int .i64 f, .int .i64 t, .int .u64 (te : Int), .int .u64 (ix : Int), .int .u64 (pr : Int), .int .u64 (co : Int), .bool ok, .slice dA dn dc, .slice eA en ec], .agg #[.int .i64 k₂, .int .i64 f₂, .int .i64 t₂, .int .u64 (te₂ : Int), .int .u64 (ix₂ : Int), .int .u64 (pr₂ : Int), .int .u64 (co₂ : Int), .bool ok₂, .slice dA₂ dn2 dc₂, .slice eA₂ en2 ec₂]] W fun e w' => e = .returned (.bool b) ∧ Below W.heap.size W w') := fun W h1 h2 => by
        rw [← V1.out, ← V2.out]
        exact msgsame_any M1 M2 W h1 h2 HP.out
      go_wp2
      go_region_with (first
        | (go_at_call 11; refine (same_quiet (b := b) (by first | exact S1.drewN 1 | exact S1) (by first | exact S2.drewN 1 | exact S2) HS.out).mono ?_; rintro e _ ⟨rfl, q1, rfl⟩)
        | (go_at_call 9; refine (E3.out _ (by first | exact (Q1.drewN 1).drewN _ | exact Q1.drewN _) (by first | exact (Q2.drewN 1).drewN _ | exact Q2.drewN _)).mono ?_; rintro e w9 ⟨rfl, hb9⟩))
      all_goals
        clear E3 x0 x1 x2 x3 x4 x5 x6 x7 x8 x9 y0 y1 y2 y3 y4 y5 y6 y7 y8 y9
        have hbb : (b == b) = true := by simp
        go_wp2
        go_ret
        exact ⟨by first | rfl | simp, (below_drewN D3 _).trans (hb9.mono D3.size)⟩
    · have n_2 : ((c2 : Int) != 0) = true := bne_iff_ne.2 (by omega)
      clear hR HL1 HL2 HC1 HC2 h1 h2
      go_wp2
      go_ret
      exact ⟨rfl, D3⟩
  · have n_1 : ((c1 : Int) != 0) = true := bne_iff_ne.2 (by omega)
    clear hR HL1 HL2 HC1 HC2 h1
    go_wp2
    go_ret
    exact ⟨rfl, D3⟩
end Go.Proofs.Ytciolppoanfiaaa
