import Derived.Test.YtciolppoanfiaaaWAwake3
import Derived.Test.YtciolppoanfiaaaXMsgSame
import Derived.Test.YtciolppoanfiaaaXRefDec
import Derived.Test.YtciolppoanfiaaaPKitW
namespace Go.Proofs.Ytciolppoanfiaaa
open Go.RowKit
set_option maxRecDepth 100000 in
set_option maxHeartbeats 4000000 in
theorem wireDecodes_any (w : World) {v : Value} {l : List UInt8} (hB : Bytes w v l) :
    Calls Try.prog 3 #[v] w fun e w' => e = .returned (.bool true) ∧ Below w.heap.size w w' := by
  obtain ⟨lo, hi, A, c, rfl, hs⟩ := hB
  have hcap := hs.cap
  have hmax := hs.max
  obtain ⟨n, hn⟩ : ∃ n, l.length = n := ⟨_, rfl⟩
  rw [hn] at hs hcap ⊢
  have HN := Lib.hid hn
  clear hn
  by_cases hbig : n ≤ 3000
  · have q1 : decide ((3000 : Int) < (n : Int)) = false := decide_eq_false (by omega)
    go_enter Try.func3, Try.ntmps3
    go_wp2_with fail
    refine (awake3_any _).mono ?_
    rintro e w1 ⟨rfl, hb1⟩
    have s1 := hs.after (by decide) hb1
    have HLN : Hid (l.length ≤ 100000) := by show _ ≤ _; have := HN.out; omega
    clear hs
    have hq := fun W (h : Bytes W (.slice A n c) l) => decode_any W h HLN.out
    have hr := fun W (h : Bytes W (.slice A n c) l) => qdecode_any W h HLN.out
    obtain ⟨cd, hcd⟩ : ∃ cd, decC l = cd := ⟨_, rfl⟩
    rw [hcd] at hq hr
    have HQ := Lib.hid hq
    have HR := Lib.hid hr
    clear hq hr hcd
    go_wp2_with fail
    refine (HQ.out w1 s1.bytes).mono ?_
    rintro e w2 ⟨m, rfl, hp, hm, hb2⟩
    have D2 := hb1.trans (hb2.mono hb1.size)
    have s2 := s1.after (by decide) hb2
    clear hb1 hb2 s1 HQ
    obtain ⟨k, f, t, te, ix, pr, co, ok, dA, dc, d, eA, ec, es⟩ := m
    obtain ⟨M1, hM1⟩ : ∃ M : Msg, M = ⟨k, f, t, te, ix, pr, co, ok, dA, dc, d, eA, ec, es⟩ := ⟨_, rfl⟩
    have vM1 : M1.v = .agg #[.int .i64 k, .int .i64 f, .int .i64 t, .int .u64 (te : Int), .int .u64 (ix : Int), .int .u64 (pr : Int), .int .u64 (co : Int), .bool ok, .slice dA d.length dc, .slice eA es.length ec] := by rw [hM1]; rfl
    simp only [Msg.v, mcells]
    rw [← hM1] at hm hp
    have V1 := Lib.hid vM1
    clear hM1 vM1
    generalize hdn : d.length = dn at V1 ⊢
    generalize hen : es.length = en at V1 ⊢
    clear hdn hen
    have B2 := Blk.new w2 27 #[.int .i64 k, .int .i64 f, .int .i64 t, .int .u64 (te : Int), .int .u64 (ix : Int), .int .u64 (pr : Int), .int .u64 (co : Int), .bool ok, .slice dA dn dc, .slice eA en ec]
    have Q2 := hm.alloc (.cells #[.int .i64 k, .int .i64 f, .int .i64 t, .int .u64 (te : Int), .int .u64 (ix : Int), .int .u64 (pr : Int), .int .u64 (co : Int), .bool ok, .slice dA dn dc, .slice eA en ec] 27)
    have D3 := D2.alloc D2.size (.cells #[.int .i64 k, .int .i64 f, .int .i64 t, .int .u64 (te : Int), .int .u64 (ix : Int), .int .u64 (pr : Int), .int .u64 (co : Int), .bool ok, .slice dA dn dc, .slice eA en ec] 27)
    have s3 := s2.alloc (by decide) (.cells #[.int .i64 k, .int .i64 f, .int .i64 t, .int .u64 (te : Int), .int .u64 (ix : Int), .int .u64 (pr : Int), .int .u64 (co : Int), .bool ok, .slice dA dn dc, .slice eA en ec] 27)
    clear hm D2 s2
    go_wp2_with fail
    refine (HR.out _ s3.bytes).mono ?_
    rintro e w4 ⟨m₂, rfl, hp₂, hm₂, hb4⟩
    have B4 := B2.after hb4
    have Q4 := Q2.after hb4
    have D4 := D3.trans (hb4.mono D3.size)
    clear B2 Q2 D3 hb4 s3 HR
    obtain ⟨k₂, f₂, t₂, te₂, ix₂, pr₂, co₂, ok₂, dA₂, dc₂, d₂, eA₂, ec₂, es₂⟩ := m₂
    obtain ⟨M2, hM2⟩ : ∃ M : Msg, M = ⟨k₂, f₂, t₂, te₂, ix₂, pr₂, co₂, ok₂, dA₂, dc₂, d₂, eA₂, ec₂, es₂⟩ := ⟨_, rfl⟩
    have vM2 : M2.v = .agg #[.int .i64 k₂, .int .i64 f₂, .int .i64 t₂, .int .u64 (te₂ : Int), .int .u64 (ix₂ : Int), .int .u64 (pr₂ : Int), .int .u64 (co₂ : Int), .bool ok₂, .slice dA₂ d₂.length dc₂, .slice eA₂ es₂.length ec₂] := by rw [hM2]; rfl
    simp only [Msg.v, mcells]
    rw [← hM2] at hm₂ hp₂
    have V2 := Lib.hid vM2
    clear hM2 vM2
    generalize hdn : d₂.length = dn2 at V2 ⊢
    generalize hen : es₂.length = en2 at V2 ⊢
    clear hdn hen
    have D5 := D4.alloc D4.size (.cells #[.int .i64 k₂, .int .i64 f₂, .int .i64 t₂, .int .u64 (te₂ : Int), .int .u64 (ix₂ : Int), .int .u64 (pr₂ : Int), .int .u64 (co₂ : Int), .bool ok₂, .slice dA₂ dn2 dc₂, .slice eA₂ en2 ec₂] 27)
    have C5 := Blk.new w4 27 #[.int .i64 k₂, .int .i64 f₂, .int .i64 t₂, .int .u64 (te₂ : Int), .int .u64 (ix₂ : Int), .int .u64 (pr₂ : Int), .int .u64 (co₂ : Int), .bool ok₂, .slice dA₂ dn2 dc₂, .slice eA₂ en2 ec₂]
    have B5 := B4.alloc (.cells #[.int .i64 k₂, .int .i64 f₂, .int .i64 t₂, .int .u64 (te₂ : Int), .int .u64 (ix₂ : Int), .int .u64 (pr₂ : Int), .int .u64 (co₂ : Int), .bool ok₂, .slice dA₂ dn2 dc₂, .slice eA₂ en2 ec₂] 27)
    have Q5 := Q4.alloc (.cells #[.int .i64 k₂, .int .i64 f₂, .int .i64 t₂, .int .u64 (te₂ : Int), .int .u64 (ix₂ : Int), .int .u64 (pr₂ : Int), .int .u64 (co₂ : Int), .bool ok₂, .slice dA₂ dn2 dc₂, .slice eA₂ en2 ec₂] 27)
    have P5 := hm₂.alloc (.cells #[.int .i64 k₂, .int .i64 f₂, .int .i64 t₂, .int .u64 (te₂ : Int), .int .u64 (ix₂ : Int), .int .u64 (pr₂ : Int), .int .u64 (co₂ : Int), .bool ok₂, .slice dA₂ dn2 dc₂, .slice eA₂ en2 ec₂] 27)
    obtain ⟨x0, x1, x2, x3, x4, x5, x6, x7, x8, x9⟩ := B4.c10
    have lt4 := B4.lt
    have E3 := msgsame_any M1 M2 _ Q5 P5 (b := true) (by rw [hp, hp₂]; simp)
    rw [V1.out, V2.out] at E3
    have E4 := Lib.hid E3
    have hcc : ((cd : Int) == (cd : Int)) = true := by simp
    clear B4 Q4 D4 hm₂ hp hp₂ E3 Q5 P5 B5 C5
    go_wp2_with fail
    refine E4.out.mono ?_
    rintro e w6 ⟨rfl, hb6⟩
    go_wp2
    go_ret
    exact ⟨rfl, D5.trans (hb6.mono D5.size)⟩
  · have q1 : decide ((3000 : Int) < (n : Int)) = true := decide_eq_true (by omega)
    go_enter Try.func3, Try.ntmps3
    go_wp2_with fail
    refine (awake3_any _).mono ?_
    rintro e w1 ⟨rfl, hb1⟩
    go_wp2
    go_ret
    exact ⟨rfl, hb1⟩
end Go.Proofs.Ytciolppoanfiaaa
