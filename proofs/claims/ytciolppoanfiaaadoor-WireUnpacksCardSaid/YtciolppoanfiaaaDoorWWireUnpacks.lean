import Derived.Test.YtciolppoanfiaaaDoorWAwake3
import Derived.Test.YtciolppoanfiaaaDoorXMsgSame
import Derived.Test.YtciolppoanfiaaaDoorXUnpack
namespace Go.Proofs.YtciolppoanfiaaaDoor
open Go.RowKit
set_option maxRecDepth 100000 in
set_option maxHeartbeats 4000000 in
theorem wireUnpacks_any (w : World) {v : Value} {l : List UInt8} (hB : Bytes w v l) (hT : Tab w) (hT0 : 0 < w.heap.size) :
    Calls Tryd.prog 8 #[v] w fun e w' => e = .returned (.bool true) ∧ Below w.heap.size w w' := by
  obtain ⟨A, c, rfl, hs⟩ := hB.now
  have hcap := hs.cap
  have hmax := hs.max
  have hb := hs.bytesIn
  obtain ⟨n, hn⟩ : ∃ n, l.length = n := ⟨_, rfl⟩
  rw [hn] at hb hcap ⊢
  have HN := Lib.hid hn
  clear hn hs hB
  by_cases hbig : n ≤ 3000
  · have q1 : decide ((3000 : Int) < (n : Int)) = false := decide_eq_false (by omega)
    have HLN : Hid (l.length ≤ 100000) := by show _ ≤ _; have := HN.out; omega
    have HU : Hid (∀ W, Below w.heap.size w W → BytesIn W 0 w.heap.size (.slice A n c) l → Calls Tryd.prog 29 #[.slice A n c] W fun e w' => ∃ (m : Msg) (B : Option Addr) (d : Nat), e = .returned (.tuple #[m.v, .slice B (unR l).length d, .int .i64 (unE l : Nat)]) ∧ m.plain = unM l ∧ IsMsg w' m ∧ BytesIn w' 0 w.heap.size (.slice B (unR l).length d) (unR l) ∧ Below W.heap.size W w') :=
      fun W hb h => unpack_any W h hb.size (hT.below hb hT0) (by have := hb.size; omega) HLN.out
    have HR : Hid (∀ W, Below w.heap.size w W → BytesIn W 0 w.heap.size (.slice A n c) l → Calls Tryd.prog 30 #[.slice A n c] W fun e w' => ∃ (m : Msg) (B : Option Addr) (d : Nat), e = .returned (.tuple #[m.v, .slice B (unR l).length d, .int .i64 (unE l : Nat)]) ∧ m.plain = unM l ∧ IsMsg w' m ∧ BytesIn w' 0 w.heap.size (.slice B (unR l).length d) (unR l) ∧ Below W.heap.size W w') :=
      fun W hb h => qunpack_any W h hb.size HLN.out
    generalize unE l = ue at HU HR
    obtain ⟨ur, hur⟩ : ∃ r, unR l = r := ⟨_, rfl⟩
    rw [hur] at HU HR
    obtain ⟨k0, hk0⟩ : ∃ k, ur.length = k := ⟨_, rfl⟩
    rw [hk0] at HU HR
    clear hur hk0 hT
    go_enter Tryd.func8, Tryd.ntmps8
    go_wp2_with fail
    refine (awake3_any _).mono ?_
    rintro e w1 ⟨rfl, D1⟩
    have s1 := hb.after D1
    clear hb
    go_wp2_with fail
    refine (HU.out w1 D1 s1).mono ?_
    rintro e w2 ⟨m, B2, d2, rfl, hp, hm, hr2, hb2⟩
    have D2 := D1.trans (hb2.mono D1.size)
    have s2 := s1.after hb2
    clear hb2 s1 HU D1
    obtain ⟨k, f, t, te, ix, pr, co, ok, dA, dc, d, eA, ec, es⟩ := m
    obtain ⟨M1, hM1⟩ : ∃ M : Msg, M = ⟨k, f, t, te, ix, pr, co, ok, dA, dc, d, eA, ec, es⟩ := ⟨_, rfl⟩
    have vM1 : M1.v = .agg #[.int .i64 k, .int .i64 f, .int .i64 t, .int .u64 (te : Int), .int .u64 (ix : Int), .int .u64 (pr : Int), .int .u64 (co : Int), .bool ok, .slice dA d.length dc, .slice eA es.length ec] := by rw [hM1]; rfl
    simp only [Msg.v, mcells]
    rw [← hM1] at hm hp
    have V1 := Lib.hid vM1
    clear hM1 vM1
    generalize hdn : d.length = dn at V1 ⊢
    generalize hen : es.length = en at V1 ⊢
    clear hdn hen
    have B2 := Blk.new w2 41 #[.int .i64 k, .int .i64 f, .int .i64 t, .int .u64 (te : Int), .int .u64 (ix : Int), .int .u64 (pr : Int), .int .u64 (co : Int), .bool ok, .slice dA dn dc, .slice eA en ec]
    have Q2 := hm.alloc (.cells #[.int .i64 k, .int .i64 f, .int .i64 t, .int .u64 (te : Int), .int .u64 (ix : Int), .int .u64 (pr : Int), .int .u64 (co : Int), .bool ok, .slice dA dn dc, .slice eA en ec] 41)
    have D3 := D2.alloc D2.size (.cells #[.int .i64 k, .int .i64 f, .int .i64 t, .int .u64 (te : Int), .int .u64 (ix : Int), .int .u64 (pr : Int), .int .u64 (co : Int), .bool ok, .slice dA dn dc, .slice eA en ec] 41)
    have s3 := s2.alloc (.cells #[.int .i64 k, .int .i64 f, .int .i64 t, .int .u64 (te : Int), .int .u64 (ix : Int), .int .u64 (pr : Int), .int .u64 (co : Int), .bool ok, .slice dA dn dc, .slice eA en ec] 41)
    have hr3 := hr2.alloc (.cells #[.int .i64 k, .int .i64 f, .int .i64 t, .int .u64 (te : Int), .int .u64 (ix : Int), .int .u64 (pr : Int), .int .u64 (co : Int), .bool ok, .slice dA dn dc, .slice eA en ec] 41)
    clear hm D2 s2 hr2
    go_wp2_with fail
    refine (HR.out _ D3 s3).mono ?_
    rintro e w4 ⟨m₂, B4, d4, rfl, hp₂, hm₂, hr4, hb4⟩
    have B4' := B2.after hb4
    have Q4 := Q2.after hb4
    have R4 := hr3.after hb4
    have D4 := D3.trans (hb4.mono D3.size)
    clear B2 Q2 D3 hb4 s3 HR hr3
    obtain ⟨k₂, f₂, t₂, te₂, ix₂, pr₂, co₂, ok₂, dA₂, dc₂, d₂, eA₂, ec₂, es₂⟩ := m₂
    obtain ⟨M2, hM2⟩ : ∃ M : Msg, M = ⟨k₂, f₂, t₂, te₂, ix₂, pr₂, co₂, ok₂, dA₂, dc₂, d₂, eA₂, ec₂, es₂⟩ := ⟨_, rfl⟩
    have vM2 : M2.v = .agg #[.int .i64 k₂, .int .i64 f₂, .int .i64 t₂, .int .u64 (te₂ : Int), .int .u64 (ix₂ : Int), .int .u64 (pr₂ : Int), .int .u64 (co₂ : Int), .bool ok₂, .slice dA₂ d₂.length dc₂, .slice eA₂ es₂.length ec₂] := by rw [hM2]; rfl
    simp only [Msg.v, mcells]
    rw [← hM2] at hm₂ hp₂
    have V2 := Lib.hid vM2
    clear hM2 vM2
    generalize hdn : d₂.length = dn2 at V2 ⊢
    generalize hen : es₂.length = en2 at V2 ⊢
    clear hdn hen
    have D5 := D4.alloc D4.size (.cells #[.int .i64 k₂, .int .i64 f₂, .int .i64 t₂, .int .u64 (te₂ : Int), .int .u64 (ix₂ : Int), .int .u64 (pr₂ : Int), .int .u64 (co₂ : Int), .bool ok₂, .slice dA₂ dn2 dc₂, .slice eA₂ en2 ec₂] 41)
    have Q5 := Q4.alloc (.cells #[.int .i64 k₂, .int .i64 f₂, .int .i64 t₂, .int .u64 (te₂ : Int), .int .u64 (ix₂ : Int), .int .u64 (pr₂ : Int), .int .u64 (co₂ : Int), .bool ok₂, .slice dA₂ dn2 dc₂, .slice eA₂ en2 ec₂] 41)
    have P5 := hm₂.alloc (.cells #[.int .i64 k₂, .int .i64 f₂, .int .i64 t₂, .int .u64 (te₂ : Int), .int .u64 (ix₂ : Int), .int .u64 (pr₂ : Int), .int .u64 (co₂ : Int), .bool ok₂, .slice dA₂ dn2 dc₂, .slice eA₂ en2 ec₂] 41)
    have R5 := R4.alloc (.cells #[.int .i64 k₂, .int .i64 f₂, .int .i64 t₂, .int .u64 (te₂ : Int), .int .u64 (ix₂ : Int), .int .u64 (pr₂ : Int), .int .u64 (co₂ : Int), .bool ok₂, .slice dA₂ dn2 dc₂, .slice eA₂ en2 ec₂] 41)
    have S5 := hr4.alloc (.cells #[.int .i64 k₂, .int .i64 f₂, .int .i64 t₂, .int .u64 (te₂ : Int), .int .u64 (ix₂ : Int), .int .u64 (pr₂ : Int), .int .u64 (co₂ : Int), .bool ok₂, .slice dA₂ dn2 dc₂, .slice eA₂ en2 ec₂] 41)
    obtain ⟨x0, x1, x2, x3, x4, x5, x6, x7, x8, x9⟩ := B4'.c10
    have lt4 := B4'.lt
    have E3 := msgsame_any M1 M2 _ Q5 P5 (b := true) (by rw [hp, hp₂]; simp)
    rw [V1.out, V2.out] at E3
    have E4 := Lib.hid E3
    have HR5 := Lib.hid R5
    have HS5 := Lib.hid S5
    have hcc : ((ue : Int) == (ue : Int)) = true := by simp
    have HEQ : Hid ((ur == ur) = true) := by show _ = _; simp
    clear B4' Q4 D4 hm₂ hp hp₂ E3 Q5 P5 R4 hr4 R5 S5
    go_wp2_with fail
    refine E4.out.mono ?_
    rintro e w6 ⟨rfl, hb6⟩
    clear E4 x0 x1 x2 x3 x4 x5 x6 x7 x8 x9
    go_wp2_with fail
    refine (same_val (b := true) (HR5.out.after hb6).bytes (HS5.out.after hb6).bytes HEQ.out).mono ?_
    rintro e w7 ⟨rfl, hb7⟩
    have D6 := D5.trans (hb6.mono D5.size)
    go_wp2
    go_ret
    exact ⟨rfl, D6.trans (hb7.mono D6.size)⟩
  · have q1 : decide ((3000 : Int) < (n : Int)) = true := decide_eq_true (by omega)
    go_enter Tryd.func8, Tryd.ntmps8
    go_wp2_with fail
    refine (awake3_any _).mono ?_
    rintro e w1 ⟨rfl, hb1⟩
    go_wp2
    go_ret
    exact ⟨rfl, hb1⟩
end Go.Proofs.YtciolppoanfiaaaDoor
