import Derived.Test.YtciolppoanfiaaaWAwake3
import Derived.Test.YtciolppoanfiaaaXMsgSame
import Derived.Test.YtciolppoanfiaaaPKitW
namespace Go.Proofs.Ytciolppoanfiaaa
open Go.RowKit

/-- b[:h] of bytes: one equation for the walk -/
theorem bytes_cut {P : Program} (t e : TypeId) (i : TypeInfo) (ht : P.underlying t = some (.slice e)) (hi : P.info? e = some i) (A : Option Addr) (m c h : Nat) (h2 : h ≤ c) :
    ∃ A', (0 < h → A' = A) ∧ ∀ W, (Instr.sliceAt t (.slice A m c) none (some (.int .i64 (h : Int))) none).run P W = .ok (.slice A' h c) W := by
  have he : P.elem t = e := by simp [Program.elem, ht]
  have ht' : P.underlying t = some (.slice (P.elem t)) := by rw [he]; exact ht
  refine ⟨A, fun _ => rfl, fun W => ?_⟩
  rw [run_sliceAt_slice W t _ _ _ _ ht', run_slice_h W t A m c ht' .i64 (h : Int) (by omega) (by omega), he]
  cases A <;> simp [sizeOf, typeInfo, hi, sliced, Addr.add]
theorem decM_parts {l : List UInt8} {m : Msg} (h : m.plain = decM l) (h0 : decC l ≠ 0) : m.k = 0 ∧ m.d.length = 0 ∧ m.es.length = 0 := by
  unfold decM at h
  rw [if_neg h0] at h
  simp only [Msg.plain, PMsg.zero, PMsg.mk.injEq] at h
  obtain ⟨h1, -, -, -, -, -, -, -, h2, h3⟩ := h
  exact ⟨h1, by rw [h2]; rfl, by simpa using congrArg List.length h3⟩
set_option maxRecDepth 100000 in
set_option maxHeartbeats 4000000 in
theorem wireAgain_any (w : World) {v : Value} {l : List UInt8} (hB : Bytes w v l) {left : Int} (_h : -9223372036854775808 ≤ left ∧ left ≤ 9223372036854775807) :
    Calls Try.prog 4 #[v, .int .i64 left] w fun e w' => e = .returned (.bool true) ∧ Below w.heap.size w w' := by
  obtain ⟨i0, hi0, hz0, hz1, hz2⟩ := info_parts u8_info
  obtain ⟨lo, hi, A, c, rfl, hs⟩ := hB
  have hcap := hs.cap
  have hmax := hs.max
  obtain ⟨n, hn⟩ : ∃ n, l.length = n := ⟨_, rfl⟩
  rw [hn] at hs hcap ⊢
  have HN := Lib.hid hn
  clear hn
  by_cases hbig : n ≤ 1000
  · have q1 : decide ((1000 : Int) < (n : Int)) = false := decide_eq_false (by omega)
    go_enter Try.func4, Try.ntmps4
    go_wp2_with fail
    refine (awake3_any _).mono ?_
    rintro e w1 ⟨rfl, hb1⟩
    have s1 := hs.after (by decide) hb1
    have HLN : Hid (l.length ≤ 100000) := by show _ ≤ _; have := HN.out; omega
    clear hs
    go_wp2_with fail
    refine (decode_any w1 (by have := s1.bytes; exact this) HLN.out).mono ?_
    rintro e w2 ⟨m, rfl, hpl, hm, hb2⟩
    have D2 := hb1.trans (hb2.mono hb1.size)
    have s2 := s1.after (by decide) hb2
    clear hb1 hb2 s1
    obtain ⟨cd, hcd⟩ : ∃ cd, decC l = cd := ⟨_, rfl⟩
    rw [hcd]
    by_cases h0 : cd = 0
    · have n1 : ((cd : Int) != 0) = false := by simp [h0]
      subst h0
      obtain ⟨henc, hck⟩ := read_written hcd
      have hpl2 : m.plain = decP l := by rw [hpl]; unfold decM; rw [if_pos hcd]
      have HCK : Hid (m.plain.check = 0) := by show _ = _; rw [hpl2]; exact hck
      have HENC : Hid ((if (0 : Nat) = 0 then m.plain.enc else []) = l) := by show _ = _; rw [if_pos rfl, hpl2]; exact henc
      have HSH : Hid (∀ j : Nat, j < n → decC (l.take j) = 10) := fun j hj => cut_short hcd (by rw [HN.out]; exact hj)
      clear henc hck hpl hpl2 hcd
      obtain ⟨k, f, t, te, ix, pr, co, ok, dA, dc, d, eA, ec, es⟩ := m
      simp only [Msg.v, mcells]
      obtain ⟨M1, hM1⟩ : ∃ M : Msg, M = ⟨k, f, t, te, ix, pr, co, ok, dA, dc, d, eA, ec, es⟩ := ⟨_, rfl⟩
      have v1 : M1.v = .agg #[.int .i64 k, .int .i64 f, .int .i64 t, .int .u64 (te : Int), .int .u64 (ix : Int), .int .u64 (pr : Int), .int .u64 (co : Int), .bool ok, .slice dA d.length dc, .slice eA es.length ec] := by rw [hM1]; rfl
      rw [← hM1] at hm HCK HENC
      have V1 := Lib.hid v1
      clear hM1 v1
      generalize hdn : d.length = dn at V1 ⊢
      generalize hen : es.length = en at V1 ⊢
      clear hdn hen
      go_wp2_with fail
      have Q3 := hm.alloc (.cells #[.int .i64 k, .int .i64 f, .int .i64 t, .int .u64 (te : Int), .int .u64 (ix : Int), .int .u64 (pr : Int), .int .u64 (co : Int), .bool ok, .slice dA dn dc, .slice eA en ec] 27)
      have s3 := s2.alloc (by decide) (.cells #[.int .i64 k, .int .i64 f, .int .i64 t, .int .u64 (te : Int), .int .u64 (ix : Int), .int .u64 (pr : Int), .int .u64 (co : Int), .bool ok, .slice dA dn dc, .slice eA en ec] 27)
      have D3 := D2.alloc D2.size (.cells #[.int .i64 k, .int .i64 f, .int .i64 t, .int .u64 (te : Int), .int .u64 (ix : Int), .int .u64 (pr : Int), .int .u64 (co : Int), .bool ok, .slice dA dn dc, .slice eA en ec] 27)
      have E1 := encode_any M1 _ Q3 HCK.out HENC.out
      rw [V1.out] at E1
      refine E1.mono ?_
      rintro e w4 ⟨A4, n4, rfl, u4, -, hb4⟩
      have D4 := D3.trans (hb4.mono D3.size)
      have s4 := s3.after (by decide) hb4
      clear E1 Q3 s3 D3 hb4 hm s2 D2
      rw [HN.out] at u4 ⊢
      have HEQ : Hid ((l == l) = true) := by show _ = _; simp
      by_cases hl : left < 0
      · have q2 : decide (left < 0) = true := decide_eq_true hl
        go_wp2_with fail
        refine (same_val (b := true) s4.bytes u4 HEQ.out).mono ?_
        rintro e w5 ⟨rfl, hb5⟩
        go_wp2
        go_ret
        exact ⟨rfl, D4.trans (hb5.mono D4.size)⟩
      · have q2 : decide (left < 0) = false := decide_eq_false hl
        obtain ⟨j, rfl⟩ : ∃ j : Nat, left = (j : Int) := ⟨left.toNat, by omega⟩
        by_cases hj : n ≤ j
        · have q3 : decide ((n : Int) ≤ (j : Int)) = true := decide_eq_true (by omega)
          go_wp2_with fail
          refine (same_val (b := true) s4.bytes u4 HEQ.out).mono ?_
          rintro e w5 ⟨rfl, hb5⟩
          go_wp2
          go_ret
          exact ⟨rfl, D4.trans (hb5.mono D4.size)⟩
        · have q3 : decide ((n : Int) ≤ (j : Int)) = false := decide_eq_false (by omega)
          have hsh := HSH.out j (by omega)
          obtain ⟨A5, hA5, hcut⟩ := bytes_cut 22 5 i0 Try.underlying22 hi0 A n c j (by omega)
          have sj : Bytes w4 (.slice A5 j c) (l.take j) := by simpa using (s4.subB (k := 0) (m := j) (c' := c) (A' := A5) (by omega) (by omega) hmax (fun h => by rw [hA5 h]; cases A <;> simp [Addr.add])).bytes
          have HLJ : Hid ((l.take j).length ≤ 100000) := by show _ ≤ _; have := HLN.out; simp; omega
          have HSJ := Lib.hid hsh
          clear hsh hA5
          go_wp2_with fail
          refine (decode_any w4 sj HLJ.out).mono ?_
          rintro e w5 ⟨m5, rfl, -, -, hb5⟩
          rw [HSJ.out]
          obtain ⟨k₂, f₂, t₂, te₂, ix₂, pr₂, co₂, ok₂, dA₂, dc₂, d₂, eA₂, ec₂, es₂⟩ := m5
          simp only [Msg.v, mcells]
          have D5 := D4.trans (hb5.mono D4.size)
          have s5 := (s4.after (by decide) hb5).alloc (by decide) (.cells #[.int .i64 k₂, .int .i64 f₂, .int .i64 t₂, .int .u64 (te₂ : Int), .int .u64 (ix₂ : Int), .int .u64 (pr₂ : Int), .int .u64 (co₂ : Int), .bool ok₂, .slice dA₂ d₂.length dc₂, .slice eA₂ es₂.length ec₂] 27)
          have u5 := (u4.after hb5).alloc (.cells #[.int .i64 k₂, .int .i64 f₂, .int .i64 t₂, .int .u64 (te₂ : Int), .int .u64 (ix₂ : Int), .int .u64 (pr₂ : Int), .int .u64 (co₂ : Int), .bool ok₂, .slice dA₂ d₂.length dc₂, .slice eA₂ es₂.length ec₂] 27)
          have D6 := D5.alloc D5.size (.cells #[.int .i64 k₂, .int .i64 f₂, .int .i64 t₂, .int .u64 (te₂ : Int), .int .u64 (ix₂ : Int), .int .u64 (pr₂ : Int), .int .u64 (co₂ : Int), .bool ok₂, .slice dA₂ d₂.length dc₂, .slice eA₂ es₂.length ec₂] 27)
          go_wp2_with fail
          refine (same_val (b := true) s5.bytes u5 HEQ.out).mono ?_
          rintro e w6 ⟨rfl, hb6⟩
          go_wp2
          go_ret
          exact ⟨rfl, D6.trans (hb6.mono D6.size)⟩
    · have n1 : ((cd : Int) != 0) = true := bne_iff_ne.2 (by omega)
      obtain ⟨z1, z2, z3⟩ := decM_parts hpl (by rw [hcd]; exact h0)
      obtain ⟨k, f, t, te, ix, pr, co, ok, dA, dc, d, eA, ec, es⟩ := m
      simp only at z1 z2 z3
      simp only [Msg.v, mcells]
      rw [z1, z2, z3]
      clear hpl hm hcd h0 z1 z2 z3
      have B2 := Blk.new w2 27 #[.int .i64 0, .int .i64 f, .int .i64 t, .int .u64 (te : Int), .int .u64 (ix : Int), .int .u64 (pr : Int), .int .u64 (co : Int), .bool ok, .slice dA 0 dc, .slice eA 0 ec]
      obtain ⟨x0, x1, x2, x3, x4, x5, x6, x7, x8, x9⟩ := B2.c10
      go_wp2
      go_ret
      exact ⟨rfl, D2.alloc D2.size _⟩
  · have q1 : decide ((1000 : Int) < (n : Int)) = true := decide_eq_true (by omega)
    go_enter Try.func4, Try.ntmps4
    go_wp2_with fail
    refine (awake3_any _).mono ?_
    rintro e w1 ⟨rfl, hb1⟩
    go_wp2
    go_ret
    exact ⟨rfl, hb1⟩
end Go.Proofs.Ytciolppoanfiaaa
