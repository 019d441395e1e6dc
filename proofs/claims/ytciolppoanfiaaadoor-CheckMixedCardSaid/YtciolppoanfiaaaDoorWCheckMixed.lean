import Derived.Test.YtciolppoanfiaaaDoorWCheckSums
import Derived.Deep.RegionLaw
namespace Go.Proofs.YtciolppoanfiaaaDoor
open Go.RowKit

theorem u8_xor_bytes (x y : UInt8) : bits .xor .u8 (x.toNat : Int) (y.toNat : Int) = ((x ^^^ y).toNat : Int) := by
  rw [u8_xor_nat _ _ x.toNat_lt y.toNat_lt, UInt8.toNat_xor]
/-- The bytes of all three, bit by bit. -/
def mix (a b c : List UInt8) : List UInt8 := List.zipWith (· ^^^ ·) (List.zipWith (· ^^^ ·) a b) c
theorem mix_snoc (a b c : List UInt8) (k : Nat) (x y z : UInt8) (hx : a[k]? = some x) (hy : b[k]? = some y) (hz : c[k]? = some z) :
    mix (a.take (k + 1)) (b.take (k + 1)) (c.take (k + 1)) = mix (a.take k) (b.take k) (c.take k) ++ [x ^^^ y ^^^ z] := by
  obtain ⟨hx1, hx2⟩ := List.getElem?_eq_some_iff.1 hx
  obtain ⟨hy1, hy2⟩ := List.getElem?_eq_some_iff.1 hy
  obtain ⟨hz1, hz2⟩ := List.getElem?_eq_some_iff.1 hz
  unfold mix
  rw [List.take_succ_eq_append_getElem hx1, List.take_succ_eq_append_getElem hy1, List.take_succ_eq_append_getElem hz1, hx2, hy2, hz2,
    List.zipWith_append (by simp; omega), List.zipWith_append (by simp; omega)]
  rfl
theorem mix_len (a b c : List UInt8) (k : Nat) (ha : k ≤ a.length) (hb : k ≤ b.length) (hc : k ≤ c.length) : (mix (a.take k) (b.take k) (c.take k)).length = k := by
  simp [mix]; omega

theorem run_min3 {P : Program} (ts : Array TypeId) (t : TypeId) (a b c N : Nat) (h : min (min a b) c = N) (W : World) :
    (Builtin.min_ ts t #[.int .i64 (a : Int), .int .i64 (b : Int), .int .i64 (c : Int)]).run P W = .ok (.int .i64 (N : Int)) W := by
  subst h
  have e : (if (c : Int) < (if (b : Int) < a then (b : Int) else a) then (c : Int) else (if (b : Int) < a then (b : Int) else a)) = ((min (min a b) c : Nat) : Int) := by
    split <;> split <;> omega
  rw [← e]
  rfl

set_option maxRecDepth 100000 in
set_option maxHeartbeats 1600000 in
theorem checkMixed_any {u v x : Value} {a b c : List UInt8} (w : World) (ha : Bytes w u a) (hb : Bytes w v b) (hc : Bytes w x c) (hT : Tab w) (hT0 : 0 < w.heap.size) :
    Calls Tryd.prog 4 #[u, v, x] w fun e w' => e = .returned (.bool true) ∧ Below w.heap.size w w' := by
  obtain ⟨i0, hi0, hz0, hz1, hz2⟩ := info_parts u8_info
  have ha0 := ha
  have hb0 := hb
  have hc0 := hc
  obtain ⟨_, _, A, ca, rfl, hsa⟩ := ha
  obtain ⟨_, _, B, cb, rfl, hsb⟩ := hb
  obtain ⟨_, _, C, cc, rfl, hsc⟩ := hc
  have ma := hsa.max
  have mb := hsb.max
  have mc := hsc.max
  have ka := hsa.cap
  have kb := hsb.cap
  have kc := hsc.cap
  obtain ⟨N, hNd⟩ : ∃ N, min (min a.length b.length) c.length = N := ⟨_, rfl⟩
  have hmin := run_min3 (P := Tryd.prog) #[3, 3, 3] 3 a.length b.length c.length N hNd
  have na : N ≤ a.length := by omega
  have nb : N ≤ b.length := by omega
  have nc : N ≤ c.length := by omega
  clear hNd
  by_cases h : 300 < N
  · go_enter Tryd.func4, Tryd.ntmps4
    go_wp2_with (go_at_call 12; refine (awake2_any w hT hT0).mono ?_; rintro e w1 ⟨rfl, hb1⟩)
    go_ret
    exact ⟨rfl, hb1⟩
  · obtain ⟨A', hA', hcutA⟩ := cut_h 22 5 i0 Tryd.underlying22 hi0 A a.length ca (N : Int) N (by omega) (by omega) (by omega)
    obtain ⟨B', hB', hcutB⟩ := cut_h 22 5 i0 Tryd.underlying22 hi0 B b.length cb (N : Int) N (by omega) (by omega) (by omega)
    obtain ⟨C', hC', hcutC⟩ := cut_h 22 5 i0 Tryd.underlying22 hi0 C c.length cc (N : Int) N (by omega) (by omega) (by omega)
    have sa : Bytes w (.slice A' N ca) (a.take N) := by simpa using (hsa.subB (k := 0) (m := N) (c' := ca) (A' := A') (by omega) (by omega) ma (fun h => by rw [hA' h, map_add0])).bytes
    have sb : Bytes w (.slice B' N cb) (b.take N) := by simpa using (hsb.subB (k := 0) (m := N) (c' := cb) (A' := B') (by omega) (by omega) mb (fun h => by rw [hB' h, map_add0])).bytes
    have sc : Bytes w (.slice C' N cc) (c.take N) := by simpa using (hsc.subB (k := 0) (m := N) (c' := cc) (A' := C') (by omega) (by omega) mc (fun h => by rw [hC' h, map_add0])).bytes
    clear hA' hB' hC'
    go_enter Tryd.func4, Tryd.ntmps4
    go_wp2_with (go_at_call 12; refine (awake2_any w hT hT0).mono ?_; rintro e w1 ⟨rfl, hb1⟩)
    have z1 := hb1.size
    go_loopw [9, 10] (fun d i wr => ∃ k : Nat, k ≤ N ∧ i = .int .i64 k ∧ wr.ownsRow w.heap.size 5 1 d k ((mix (a.take k) (b.take k) (c.take k)).map bv) ∧ Below w.heap.size w wr) (fun _ i _ => N - (intOf i).toNat)
    case atStart => exact ⟨0, Nat.zero_le _, rfl, World.ownsRow_nil _ _ _ _, hb1⟩
    case round =>
      obtain ⟨k, hk, rfl, hown, hb⟩ := hrel
      have hsz := hb.size
      by_cases hlt : k < N
      · obtain ⟨ad, x1, rfl, hx1, hcx1⟩ := (hsa.after (by decide) hb).byte (show k < a.length by omega)
        obtain ⟨bd, x2, rfl, hx2, hcx2⟩ := (hsb.after (by decide) hb).byte (show k < b.length by omega)
        obtain ⟨cd, x3, rfl, hx3, hcx3⟩ := (hsc.after (by decide) hb).byte (show k < c.length by omega)
        have hm := mix_snoc a b c k x1 x2 x3 hx1 hx2 hx3
        have Hm := Lib.hid hm
        have e1 := u8_xor_bytes x1 x2
        have e2 := u8_xor_bytes (x1 ^^^ x2) x3
        have l1 : k < a.length := by omega
        have l2 : k < b.length := by omega
        have l3 : k < c.length := by omega
        obtain ⟨y, hy⟩ : ∃ y, x1 ^^^ x2 = y := ⟨_, rfl⟩
        obtain ⟨z, hz⟩ : ∃ z, y ^^^ x3 = z := ⟨_, rfl⟩
        rw [hy] at e1 e2
        rw [hz] at e2
        have Hy := Lib.hid hy
        have Hz := Lib.hid hz
        clear hy hz hm hx1 hx2 hx3 hsa hsb hsc sa sb sc hcutA hcutB hcutC ha0 hb0 hc0 hmin
        obtain ⟨xs, hxs⟩ : ∃ xs, (mix (a.take k) (b.take k) (c.take k)).map bv = xs := ⟨_, rfl⟩
        rw [hxs] at hown
        have Hxs := Lib.hid hxs
        clear hxs
        go_wp2
        go_region_law (refine step_app _ rfl (.tmp 31) (.tmp 46) 22 rfl w.heap.size 5 i0 _ 1 1 Tryd.underlying22 hi0 hz0 hz1 hz2 rfl (by omega) u9 k xs (by simp [Act.eval]) (hown.alloc _) wr.heap.size (wr.heap.size + 1) (some ⟨wr.heap.size, 0, none⟩) 1 1 [bv z] (by simp [Act.eval]) (by first | exact sl_one _ _ _ | exact (sl_one _ _ _).drew) (one_bv z) (by simp only [maxLen]; omega) (by omega) (by simp; omega) ?_; intro v2 w2 hown2 hg2 hat2)
        all_goals
          go_wp2
          go_roundw
          case rel =>
            refine ⟨k + 1, by omega, by go_num, ?_, ?_⟩
            · rw [Hm.out, List.map_append, Hy.out, Hz.out, Hxs.out]
              exact hown2
            · exact ((hb.alloc hsz _).drew).grown hg2 (by simp; omega) (fun q e => (hown.lt q e).1)
          case measure => simp [intOf]; omega
      · have hkN : k = N := by omega
        subst hkN
        have hM : Crc.sum (a.take k) ^^^ Crc.sum (b.take k) ^^^ Crc.sum (c.take k) ^^^ Crc.sum (mix (a.take k) (b.take k) (c.take k)) = 0 := Crc.mixed _ _ _ (by simp; omega) (by simp; omega)
        have q1 := Crc.sum_lt (a.take k)
        have q2 := Crc.sum_lt (b.take k)
        have q3 := Crc.sum_lt (c.take k)
        have q4 := Crc.sum_lt (mix (a.take k) (b.take k) (c.take k))
        obtain ⟨S1, h1⟩ : ∃ S, Crc.sum (a.take k) = S := ⟨_, rfl⟩
        obtain ⟨S2, h2⟩ : ∃ S, Crc.sum (b.take k) = S := ⟨_, rfl⟩
        obtain ⟨S3, h3⟩ : ∃ S, Crc.sum (c.take k) = S := ⟨_, rfl⟩
        obtain ⟨S4, h4⟩ : ∃ S, Crc.sum (mix (a.take k) (b.take k) (c.take k)) = S := ⟨_, rfl⟩
        rw [h1, h2, h3, h4] at hM
        rw [h1] at q1
        rw [h2] at q2
        rw [h3] at q3
        rw [h4] at q4
        have H1 := Lib.hid h1
        have H2 := Lib.hid h2
        have H3 := Lib.hid h3
        have H4 := Lib.hid h4
        have x1 : bits .xor .u32 (S1 : Int) (S2 : Int) = ((S1 ^^^ S2 : Nat) : Int) := u32_xor_nat _ _ q1 q2
        have r1 : S1 ^^^ S2 < 4294967296 := by have := Nat.xor_lt_two_pow (n := 32) (x := S1) (y := S2) (by omega) (by omega); omega
        obtain ⟨X1, hX1⟩ : ∃ X, S1 ^^^ S2 = X := ⟨_, rfl⟩
        rw [hX1] at x1 r1 hM
        have x2 : bits .xor .u32 (X1 : Int) (S3 : Int) = ((X1 ^^^ S3 : Nat) : Int) := u32_xor_nat _ _ r1 q3
        have r2 : X1 ^^^ S3 < 4294967296 := by have := Nat.xor_lt_two_pow (n := 32) (x := X1) (y := S3) (by omega) (by omega); omega
        obtain ⟨X2, hX2⟩ : ∃ X, X1 ^^^ S3 = X := ⟨_, rfl⟩
        rw [hX2] at x2 r2 hM
        have x3 : bits .xor .u32 (X2 : Int) (S4 : Int) = 0 := by rw [u32_xor_nat _ _ r2 q4, hM]; rfl
        have u4 : Bytes wr _ (mix (a.take k) (b.take k) (c.take k)) := own_bytes hown
        clear h1 h2 h3 h4 hX1 hX2 hM hown hsa hsb hsc ha0 hb0 hc0
        go_wp2_with fail
        refine (sum_val (sa.after hb) (hT.below hb hT0) H1.out).mono ?_
        rintro e w3 ⟨rfl, hb3⟩
        have D3 := hb.trans (hb3.mono hb.size)
        go_wp2_with fail
        refine (sum_val (sb.after D3) (hT.below D3 hT0) H2.out).mono ?_
        rintro e w4 ⟨rfl, hb4⟩
        have D4 := D3.trans (hb4.mono D3.size)
        go_wp2_with fail
        refine (sum_val (sc.after D4) (hT.below D4 hT0) H3.out).mono ?_
        rintro e w5 ⟨rfl, hb5⟩
        have D5 := D4.trans (hb5.mono D4.size)
        go_wp2_with fail
        refine (sum_val (((u4.after hb3).after hb4).after hb5) (hT.below D5 hT0) H4.out).mono ?_
        rintro e w6 ⟨rfl, hb6⟩
        have D6 := D5.trans (hb6.mono D5.size)
        go_wp2_with fail
        go_ret
        exact ⟨rfl, D6⟩
end Go.Proofs.YtciolppoanfiaaaDoor
