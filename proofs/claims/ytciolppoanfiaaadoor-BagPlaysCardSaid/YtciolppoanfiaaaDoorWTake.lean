import Derived.Test.YtciolppoanfiaaaDoorWReader
import Derived.Deep.RegionWith

namespace Go.Proofs.YtciolppoanfiaaaDoor
open Go.RowKit

/-- What is wrong with the first frame: an errno, 0 for none. -/
def takeE (b : List UInt8) : Nat :=
  if b.length < 6 then 10 else if 1000 < le (b.take 2) then 2 else if b.length < 6 + le (b.take 2) then 10
  else if Crc.sum (b.take 2 ++ (b.drop 6).take (le (b.take 2))) ≠ le ((b.drop 2).take 4) then 20 else 0
def takeP (b : List UInt8) : List UInt8 := (b.drop 6).take (le (b.take 2))
def takeR (b : List UInt8) : List UInt8 := b.drop (6 + le (b.take 2))

theorem le_bound (l : List UInt8) (k : Nat) (h : l.length ≤ k) : le l < 256 ^ k :=
  Nat.lt_of_lt_of_le (le_lt l) (Nat.pow_le_pow_right (by decide) h)
theorem rdT_len (s : Bool) (l : List UInt8) (n : Nat) : (rdT s l n).length ≤ n := by unfold rdT; split <;> simp; omega
theorem only_trans {a b c : World} {g : Nat} (h1 : a.grownBy b (some g)) (h2 : b.grownBy c (some g)) : a.grownBy c (some g) :=
  ⟨h2.os.trans h1.os, h2.tape.trans h1.tape, h2.output.trans h1.output, Nat.le_trans h1.size h2.size, fun k hk hne => (h2.block k (Nat.lt_of_lt_of_le hk h1.size) hne).trans (h1.block k hk hne)⟩

set_option maxRecDepth 100000 in
set_option maxHeartbeats 400000 in
theorem read_any {v : Value} {l : List UInt8} (w : World) (ha : Bytes w v l) :
    Calls Tryd.prog 50 #[v] w fun e w' => e = .returned (.pointer (some ⟨w.heap.size, 0, none⟩)) ∧ Rdr w' w.heap.size 0 w.heap.size l false ∧ Below w.heap.size w w' := by
  have h1 := ha.now.alloc (.cells #[v, .bool false] 104)
  have h2 := Blk.new w 104 #[v, .bool false]
  obtain ⟨_, _, A, c, rfl, hs⟩ := ha
  clear hs
  generalize l.length = m at h1 h2 ⊢
  have H1 := Lib.hid h1
  have H2 := Lib.hid h2
  clear h1 h2
  go_enter Tryd.func50, Tryd.ntmps50
  go_wp2
  go_ret
  exact ⟨rfl, ⟨.inr (Nat.le_refl _), _, H2.out, H1.out⟩, (Below.refl _ w).alloc (Nat.le_refl _) _⟩

theorem rnum_ok (g lo hi n N : Nat) (l : List UInt8) (w : World) (h : Rdr w g lo hi l false) (h1 : 1 ≤ n) (h8 : n ≤ 8) (hn : n ≤ l.length) (hN : le (l.take n) = N) :
    Calls Tryd.prog 51 #[.pointer (some ⟨g, 0, none⟩), .int .i64 (n : Int)] w fun e w' =>
      e = .returned (.int .u64 (N : Int)) ∧ Rdr w' g lo hi (l.drop n) false ∧ w.grownBy w' (some g) := by
  have hS : rdS false l n = false := by simp [rdS]; omega
  have h := rnum_any g lo hi n l false w h h1 h8
  simp only [rdT, rdL, hS, Bool.false_eq_true, if_false, hN] at h
  exact h

set_option maxRecDepth 100000 in
set_option maxHeartbeats 800000 in
theorem take_short {v : Value} {l : List UInt8} (w : World) (ha : Bytes w v l) (h6 : l.length < 6) :
    Calls Tryd.prog 18 #[v] w fun e w' => e = .returned (.tuple #[.slice none 0 0, .slice none 0 0, .int .i64 10]) ∧ Below w.heap.size w w' := by
  have ha0 := ha
  obtain ⟨_, _, A, c, rfl, hs⟩ := ha
  clear hs
  have hN := le_bound _ 2 (rdT_len false l 2)
  have hM := le_bound _ 4 (rdT_len (rdS false l 2) (rdL false l 2) 4)
  have e2 : (256 : Nat) ^ 2 = 65536 := by decide
  have e4 : (256 : Nat) ^ 4 = 4294967296 := by decide
  rw [e2] at hN
  rw [e4] at hM
  clear e2 e4
  go_enter Tryd.func18, Tryd.ntmps18
  go_wp2_with (first
    | (go_at_call 51; have _g := hg2; go_must (refine (rnum_any w.heap.size 0 w.heap.size 4 _ _ _ hr2 (by omega) (by omega)).mono ?_; rintro e w3 ⟨rfl, hr3, hg3⟩))
    | (go_at_call 51; go_must (refine (rnum_any w.heap.size 0 w.heap.size 2 _ _ _ hr1 (by omega) (by omega)).mono ?_; rintro e w2 ⟨rfl, hr2, hg2⟩))
    | (go_at_call 50; go_must (refine (read_any _ ha0).mono ?_; rintro e w1 ⟨rfl, hr1, hb1⟩)))
  refine bodyPost_ret (results_tmp3 rfl _ _ _) rfl ?_
  exact ⟨rfl, hb1.grown (only_trans hg2 hg3) hb1.size (fun k e => by cases e; exact Nat.le_refl _)⟩

set_option maxRecDepth 100000 in
set_option maxHeartbeats 800000 in
theorem take_long {v : Value} {l : List UInt8} (w : World) (ha : Bytes w v l) (h6 : 6 ≤ l.length) (hbig : 1000 < le (l.take 2)) :
    Calls Tryd.prog 18 #[v] w fun e w' => e = .returned (.tuple #[.slice none 0 0, .slice none 0 0, .int .i64 2]) ∧ Below w.heap.size w w' := by
  have ha0 := ha
  obtain ⟨_, _, A, c, rfl, hs⟩ := ha
  have hm := hs.max
  have hc := hs.cap
  have hN := le_bound (l.take 2) 2 (by simp; omega)
  have hM := le_bound ((l.drop 2).take 4) 4 (by simp; omega)
  have e2 : (256 : Nat) ^ 2 = 65536 := by decide
  have e4 : (256 : Nat) ^ 4 = 4294967296 := by decide
  rw [e2] at hN
  rw [e4] at hM
  clear e2 e4
  obtain ⟨N, hNd⟩ : ∃ N, le (l.take 2) = N := ⟨_, rfl⟩
  obtain ⟨M, hMd⟩ : ∃ M, le ((l.drop 2).take 4) = M := ⟨_, rfl⟩
  rw [hNd] at hN
  rw [hMd] at hM
  have HN := Lib.hid hNd
  have HM := Lib.hid hMd
  rw [hNd] at hbig
  clear hs hNd hMd
  go_enter Tryd.func18, Tryd.ntmps18
  go_wp2_with (first
    | (go_at_call 51; have _g := hg2; go_must (refine (rnum_ok w.heap.size 0 w.heap.size 4 M _ _ hr2 (by omega) (by omega) (by simp; omega) HM.out).mono ?_; rintro e w3 ⟨rfl, hr3, hg3⟩))
    | (go_at_call 51; go_must (refine (rnum_ok w.heap.size 0 w.heap.size 2 N _ _ hr1 (by omega) (by omega) (by omega) HN.out).mono ?_; rintro e w2 ⟨rfl, hr2, hg2⟩))
    | (go_at_call 50; go_must (refine (read_any _ ha0).mono ?_; rintro e w1 ⟨rfl, hr1, hb1⟩)))
  refine bodyPost_ret (results_tmp3 rfl _ _ _) rfl ?_
  exact ⟨rfl, hb1.grown (only_trans hg2 hg3) hb1.size (fun k e => by cases e; exact Nat.le_refl _)⟩

set_option maxRecDepth 100000 in
set_option maxHeartbeats 800000 in
theorem take_few {v : Value} {l : List UInt8} (w : World) (ha : Bytes w v l) (h6 : 6 ≤ l.length) (hbig : le (l.take 2) ≤ 1000) (hfew : l.length < 6 + le (l.take 2)) :
    Calls Tryd.prog 18 #[v] w fun e w' => e = .returned (.tuple #[.slice none 0 0, .slice none 0 0, .int .i64 10]) ∧ Below w.heap.size w w' := by
  have ha0 := ha
  obtain ⟨_, _, A, c, rfl, hs⟩ := ha
  have hm := hs.max
  have hc := hs.cap
  have hN := le_bound (l.take 2) 2 (by simp; omega)
  have hM := le_bound ((l.drop 2).take 4) 4 (by simp; omega)
  have e2 : (256 : Nat) ^ 2 = 65536 := by decide
  have e4 : (256 : Nat) ^ 4 = 4294967296 := by decide
  rw [e2] at hN
  rw [e4] at hM
  clear e2 e4
  obtain ⟨N, hNd⟩ : ∃ N, le (l.take 2) = N := ⟨_, rfl⟩
  obtain ⟨M, hMd⟩ : ∃ M, le ((l.drop 2).take 4) = M := ⟨_, rfl⟩
  rw [hNd] at hN
  rw [hMd] at hM
  have HN := Lib.hid hNd
  have HM := Lib.hid hMd
  rw [hNd] at hbig hfew
  clear hs hNd hMd
  go_enter Tryd.func18, Tryd.ntmps18
  go_wp2_with (first
    | (go_at_call 51; have _g := hg2; go_must (refine (rnum_ok w.heap.size 0 w.heap.size 4 M _ _ hr2 (by omega) (by omega) (by simp; omega) HM.out).mono ?_; rintro e w3 ⟨rfl, hr3, hg3⟩))
    | (go_at_call 51; go_must (refine (rnum_ok w.heap.size 0 w.heap.size 2 N _ _ hr1 (by omega) (by omega) (by omega) HN.out).mono ?_; rintro e w2 ⟨rfl, hr2, hg2⟩))
    | (go_at_call 50; go_must (refine (read_any _ ha0).mono ?_; rintro e w1 ⟨rfl, hr1, hb1⟩)))
  refine bodyPost_ret (results_tmp3 rfl _ _ _) rfl ?_
  exact ⟨rfl, hb1.grown (only_trans hg2 hg3) hb1.size (fun k e => by cases e; exact Nat.le_refl _)⟩

set_option maxRecDepth 100000 in
set_option maxHeartbeats 1600000 in
theorem take_sum {v : Value} {l : List UInt8} (w : World) (ha : Bytes w v l) (hT : Tab w) (hT0 : 0 < w.heap.size) (hbig : le (l.take 2) ≤ 1000) (hfew : 6 + le (l.take 2) ≤ l.length)
    (hsum : Crc.sum (l.take 2 ++ (l.drop 6).take (le (l.take 2))) ≠ le ((l.drop 2).take 4)) :
    Calls Tryd.prog 18 #[v] w fun e w' => e = .returned (.tuple #[.slice none 0 0, .slice none 0 0, .int .i64 20]) ∧ Below w.heap.size w w' := by
  have h6 : 6 ≤ l.length := by omega
  have ha0 := ha
  obtain ⟨_, _, A, c, rfl, hs⟩ := ha
  have hm := hs.max
  have hc := hs.cap
  have hN := le_bound (l.take 2) 2 (by simp; omega)
  have hM := le_bound ((l.drop 2).take 4) 4 (by simp; omega)
  have e2 : (256 : Nat) ^ 2 = 65536 := by decide
  have e4 : (256 : Nat) ^ 4 = 4294967296 := by decide
  rw [e2] at hN
  rw [e4] at hM
  clear e2 e4
  obtain ⟨N, hNd⟩ : ∃ N, le (l.take 2) = N := ⟨_, rfl⟩
  obtain ⟨M, hMd⟩ : ∃ M, le ((l.drop 2).take 4) = M := ⟨_, rfl⟩
  rw [hNd] at hN
  rw [hMd] at hM
  have HN := Lib.hid hNd
  have HM := Lib.hid hMd
  rw [hNd] at hbig hfew hsum
  rw [hMd] at hsum
  clear hNd hMd
  have hlen2 : (l.take 2).length = 2 := by simp; omega
  have hlenN : ((l.drop 6).take N).length = N := by simp; omega
  obtain ⟨i0, hi0, hz0, hz1, hz2⟩ := info_parts u8_info
  have c66 : c ≤ 9223372036854775807 := hm
  obtain ⟨A2, hA2, hcut2⟩ := cut_h 22 5 i0 Tryd.underlying22 hi0 A l.length c 2 2 (by omega) (by omega) (by omega)
  obtain ⟨A6, hA6, hcut6⟩ := cut_lh 22 5 i0 1 Tryd.underlying22 hi0 hz1 A l.length c 6 (6 + (N : Int)) N (c - 6) (by omega) (by omega) (by omega) (by omega) (by omega)
  have s2 := hs.subB (k := 0) (m := 2) (c' := c) (A' := A2) (by omega) (by omega) hm (fun h => by rw [hA2 h, map_add0])
  have s6 := hs.subB (k := 6) (m := N) (c' := c - 6) (A' := A6) (by omega) (by omega) (by omega) hA6
  have s6 := hs.subB (k := 6) (m := N) (c' := c - 6) (A' := A6) (by omega) (by omega) (by omega) hA6
  rw [List.drop_zero] at s2
  have S2 := Lib.hid s2.bytes
  have S6 := Lib.hid s6.bytes
  clear hA2 hA6 s2 s6 hs
  go_enter Tryd.func18, Tryd.ntmps18
  go_wp2_with (first
    | (go_at_call 51; have _g := hg2; go_must (refine (rnum_ok w.heap.size 0 w.heap.size 4 M _ _ hr2 (by omega) (by omega) (by simp; omega) HM.out).mono ?_; rintro e w3 ⟨rfl, hr3, hg3⟩))
    | (go_at_call 51; go_must (refine (rnum_ok w.heap.size 0 w.heap.size 2 N _ _ hr1 (by omega) (by omega) (by omega) HN.out).mono ?_; rintro e w2 ⟨rfl, hr2, hg2⟩))
    | (go_at_call 50; go_must (refine (read_any _ ha0).mono ?_; rintro e w1 ⟨rfl, hr1, hb1⟩)))
  have hb3 : Below w.heap.size w w3 := hb1.grown (only_trans hg2 hg3) hb1.size (fun k e => by cases e; exact Nat.le_refl _)
  have hz3 := hb3.size
  have hr4 : Rows (w3.alloc (Obj.cells #[.slice A2 2 c, .slice A6 N (c - 6)] 22)) [.slice A2 2 c, .slice A6 N (c - 6)] [l.take 2, (l.drop 6).take N] :=
    rows2 ((S2.out.after hb3).alloc _) ((S6.out.after hb3).alloc _)
  have ht4 : total [l.take 2, (l.drop 6).take N] ≤ 1000000 := by simp [total]; omega
  have hT3 := hT.below hb3 hT0
  obtain ⟨S, hSd⟩ : ∃ S, Crc.sum (l.take 2 ++ (l.drop 6).take N) = S := ⟨_, rfl⟩
  rw [hSd] at hsum
  have HS := Lib.hid hSd
  clear hSd
  have hne : ((S : Int) != (M : Int)) = true := by simp; omega
  clear hsum
  go_wp2_with (go_at_call 47; refine (concat_any _ 2 2 _ _ _ _ _ (sl_at _ w3.heap.size 1 2 2 #[.slice A2 2 c, .slice A6 N (c - 6)] 22 rfl rfl (by omega) (by omega)) hr4 ht4 (by omega)).mono ?_; rintro e w4 ⟨u4, rfl, hown4, hbel4⟩)
  have hb4 : Below w.heap.size w w4 := (hb3.alloc hz3 _).trans (hbel4.mono (by simp; omega))
  have hu4 : Bytes w4 u4 (l.take 2 ++ (l.drop 6).take N) := own_bytes (by simpa using hown4)
  have hT4 := hT.below hb4 hT0
  clear hown4 hr4 hr1 hr2 hr3 ht4
  go_wp2_with (go_at_call 13; refine (sum_v hu4 hT4).mono ?_; rw [HS.out]; rintro e w' ⟨rfl, rfl⟩)
  refine bodyPost_ret (results_tmp3 rfl _ _ _) rfl ?_
  exact ⟨rfl, hb4⟩

set_option maxRecDepth 100000 in
set_option maxHeartbeats 1600000 in
theorem take_ok {v : Value} {l : List UInt8} (w : World) {lo hi : Nat} (haI : BytesIn w lo hi v l) (hT : Tab w) (hT0 : 0 < w.heap.size) (hbig : le (l.take 2) ≤ 1000) (hfew : 6 + le (l.take 2) ≤ l.length)
    (hsum : Crc.sum (l.take 2 ++ (l.drop 6).take (le (l.take 2))) = le ((l.drop 2).take 4)) :
    Calls Tryd.prog 18 #[v] w fun e w' => ∃ u r, e = .returned (.tuple #[u, r, .int .i64 0]) ∧ w'.ownsRow w.heap.size 5 1 u (takeP l).length ((takeP l).map bv) ∧ BytesIn w' lo hi r (takeR l) ∧ Below w.heap.size w w' := by
  have h6 : 6 ≤ l.length := by omega
  have ha := haI.bytes
  have hP : takeP l = (l.drop 6).take (le (l.take 2)) := rfl
  have hR : takeR l = l.drop (6 + le (l.take 2)) := rfl
  have ha0 := ha
  obtain ⟨A, c, rfl, hs⟩ := haI
  have hm := hs.max
  have hc := hs.cap
  have hN := le_bound (l.take 2) 2 (by simp; omega)
  have hM := le_bound ((l.drop 2).take 4) 4 (by simp; omega)
  have e2 : (256 : Nat) ^ 2 = 65536 := by decide
  have e4 : (256 : Nat) ^ 4 = 4294967296 := by decide
  rw [e2] at hN
  rw [e4] at hM
  clear e2 e4
  obtain ⟨N, hNd⟩ : ∃ N, le (l.take 2) = N := ⟨_, rfl⟩
  obtain ⟨M, hMd⟩ : ∃ M, le ((l.drop 2).take 4) = M := ⟨_, rfl⟩
  rw [hNd] at hN
  rw [hMd] at hM
  have HN := Lib.hid hNd
  have HM := Lib.hid hMd
  rw [hNd] at hbig hfew hsum hP hR
  rw [hMd] at hsum
  rw [hP, hR]
  clear hNd hMd hP hR
  have hlen2 : (l.take 2).length = 2 := by simp; omega
  have hlenN : ((l.drop 6).take N).length = N := by simp; omega
  rw [hlenN]
  obtain ⟨i0, hi0, hz0, hz1, hz2⟩ := info_parts u8_info
  obtain ⟨A2, hA2, hcut2⟩ := cut_h 22 5 i0 Tryd.underlying22 hi0 A l.length c 2 2 (by omega) (by omega) (by omega)
  obtain ⟨A6, hA6, hcut6⟩ := cut_lh 22 5 i0 1 Tryd.underlying22 hi0 hz1 A l.length c 6 (6 + (N : Int)) N (c - 6) (by omega) (by omega) (by omega) (by omega) (by omega)
  obtain ⟨A7, hA7, hcut7⟩ := cut_l 22 5 i0 1 Tryd.underlying22 hi0 hz1 A l.length c (6 + (N : Int)) (l.length - (6 + N)) (c - (6 + N)) (by omega) (by omega) hc (by omega) (by omega)
  have s2 := hs.subB (k := 0) (m := 2) (c' := c) (A' := A2) (by omega) (by omega) hm (fun h => by rw [hA2 h, map_add0])
  have s6 := hs.subB (k := 6) (m := N) (c' := c - 6) (A' := A6) (by omega) (by omega) (by omega) hA6
  have s7 := hs.subB (k := 6 + N) (m := l.length - (6 + N)) (c' := c - (6 + N)) (A' := A7) (by omega) (by omega) (by omega) (fun h => by rw [hA7 h, show (6 + (N : Int)).toNat * 1 = 6 + N by omega])
  rw [List.drop_zero] at s2
  rw [List.take_of_length_le (by simp)] at s7
  have S2 := Lib.hid s2.bytes
  have S6 := Lib.hid s6
  have S7 := Lib.hid s7.bytesIn
  clear hA2 hA6 hA7 s2 s6 s7 hs
  generalize l.length - (6 + N) = m7 at hcut7 S7
  generalize c - (6 + N) = c7 at hcut7 S7
  go_enter Tryd.func18, Tryd.ntmps18
  go_wp2_with (first
    | (go_at_call 51; have _g := hg2; go_must (refine (rnum_ok w.heap.size 0 w.heap.size 4 M _ _ hr2 (by omega) (by omega) (by simp; omega) HM.out).mono ?_; rintro e w3 ⟨rfl, hr3, hg3⟩))
    | (go_at_call 51; go_must (refine (rnum_ok w.heap.size 0 w.heap.size 2 N _ _ hr1 (by omega) (by omega) (by omega) HN.out).mono ?_; rintro e w2 ⟨rfl, hr2, hg2⟩))
    | (go_at_call 50; go_must (refine (read_any _ ha0).mono ?_; rintro e w1 ⟨rfl, hr1, hb1⟩)))
  have hb3 : Below w.heap.size w w3 := hb1.grown (only_trans hg2 hg3) hb1.size (fun k e => by cases e; exact Nat.le_refl _)
  have hz3 := hb3.size
  have hr4 : Rows (w3.alloc (Obj.cells #[.slice A2 2 c, .slice A6 N (c - 6)] 22)) [.slice A2 2 c, .slice A6 N (c - 6)] [l.take 2, (l.drop 6).take N] :=
    rows2 ((S2.out.after hb3).alloc _) ((S6.out.bytes.after hb3).alloc _)
  have ht4 : total [l.take 2, (l.drop 6).take N] ≤ 1000000 := by simp [total]; omega
  have hT3 := hT.below hb3 hT0
  obtain ⟨S, hSd⟩ : ∃ S, Crc.sum (l.take 2 ++ (l.drop 6).take N) = S := ⟨_, rfl⟩
  rw [hSd] at hsum
  have HS := Lib.hid hSd
  clear hSd
  have hne : ((S : Int) != (M : Int)) = false := by simp; omega
  clear hsum
  go_wp2_with (go_at_call 47; refine (concat_any _ 2 2 _ _ _ _ _ (sl_at _ w3.heap.size 1 2 2 #[.slice A2 2 c, .slice A6 N (c - 6)] 22 rfl rfl (by omega) (by omega)) hr4 ht4 (by omega)).mono ?_; rintro e w4 ⟨u4, rfl, hown4, hbel4⟩)
  have hb4 : Below w.heap.size w w4 := (hb3.alloc hz3 _).trans (hbel4.mono (by simp; omega))
  have hu4 : Bytes w4 u4 (l.take 2 ++ (l.drop 6).take N) := own_bytes (by simpa using hown4)
  have hT4 := hT.below hb4 hT0
  clear hown4 hr4 hr1 hr2 hr3 ht4
  go_wp2_with (go_at_call 13; refine (sum_v hu4 hT4).mono ?_; rw [HS.out]; rintro e w' ⟨rfl, rfl⟩)
  have hw6 : IntKind.i64.wrap (6 + (N : Int)) = 6 + (N : Int) := by rw [IntKind.wrap_i64]; omega
  have S64 := ((S6.out.after (by decide) hb4).drew)
  have S74 := S7.out.after hb4
  have S64' := Lib.hid S64
  clear S64 hne hu4 hT4 hT3
  go_region_with (go_at_call 52; refine (clone_any A6 N (c - 6) _ _ ((l.drop 6).take N) _ S64'.out (by omega)).mono ?_; rintro e w5 ⟨u5, rfl, hown5, hbel5⟩)
  all_goals
    go_wp2
    refine bodyPost_ret (results_tmp3 rfl _ _ _) rfl ?_
    have hz4 := hb4.size
    have hbd : Below w4.heap.size w4 w5 := below_of_drew hbel5
    exact ⟨u5, _, rfl, own_wide (base := w4.heap.size) hown5 (by omega), S74.after hbd, hb4.trans (hbd.mono hz4)⟩

/-- All that Take does: what is wrong, the payload, the rest. -/
def tP (l : List UInt8) : List UInt8 := if takeE l = 0 then takeP l else []
def tR (l : List UInt8) : List UInt8 := if takeE l = 0 then takeR l else []
/-- v reads as l, in a block below base, or in one of bytes. -/
def BytesQ (w : World) (base : Nat) (v : Value) (l : List UInt8) : Prop :=
  Bytes w v l ∧ ∀ A n c ad, v = .slice A n c → 0 < n → A = some ad → ad.block < base ∨ ∃ cs fr, w.heap[ad.block]? = some (.cells cs 5 fr)
theorem takeE_cases (l : List UInt8) : (l.length < 6 ∧ takeE l = 10) ∨ (6 ≤ l.length ∧ 1000 < le (l.take 2) ∧ takeE l = 2) ∨ (6 ≤ l.length ∧ le (l.take 2) ≤ 1000 ∧ l.length < 6 + le (l.take 2) ∧ takeE l = 10) ∨
    (le (l.take 2) ≤ 1000 ∧ 6 + le (l.take 2) ≤ l.length ∧ Crc.sum (l.take 2 ++ (l.drop 6).take (le (l.take 2))) ≠ le ((l.drop 2).take 4) ∧ takeE l = 20) ∨
    (le (l.take 2) ≤ 1000 ∧ 6 + le (l.take 2) ≤ l.length ∧ Crc.sum (l.take 2 ++ (l.drop 6).take (le (l.take 2))) = le ((l.drop 2).take 4) ∧ takeE l = 0) := by
  unfold takeE
  by_cases h1 : l.length < 6
  · left; exact ⟨h1, by rw [if_pos h1]⟩
  · right
    rw [if_neg h1]
    by_cases h2 : 1000 < le (l.take 2)
    · left; exact ⟨by omega, h2, by rw [if_pos h2]⟩
    · right
      rw [if_neg h2]
      by_cases h3 : l.length < 6 + le (l.take 2)
      · left; exact ⟨by omega, by omega, h3, by rw [if_pos h3]⟩
      · right
        rw [if_neg h3]
        by_cases h4 : Crc.sum (l.take 2 ++ (l.drop 6).take (le (l.take 2))) = le ((l.drop 2).take 4)
        · right; exact ⟨by omega, by omega, h4, by rw [if_neg (fun h => h h4)]⟩
        · left; exact ⟨by omega, by omega, h4, by rw [if_pos h4]⟩
theorem bytesQ_nil (w : World) (base : Nat) : BytesQ w base (.slice none 0 0) [] := ⟨bytes_nil w, fun A n c ad e hn hA => by cases e; omega⟩
theorem own_bytesQ {w : World} {b n base : Nat} {v : Value} {l : List UInt8} (h : w.ownsRow b 5 1 v n (l.map bv)) : BytesQ w base v l := by
  refine ⟨own_bytes h, fun A m c ad e hm hA => ?_⟩
  subst e hA
  rcases h.2 with ⟨h1, _⟩ | ⟨g, cap, cur, h1, _, hg, _⟩
  · cases h1
  · cases h1
    exact .inr ⟨_, _, hg⟩
theorem bytesIn_Q {w : World} {lo hi base : Nat} {v : Value} {l : List UInt8} (h : BytesIn w lo hi v l) (hh : hi ≤ base) : BytesQ w base v l := by
  refine ⟨h.bytes, fun A m c ad e hm hA => ?_⟩
  subst e hA
  obtain ⟨A', c', e, hs⟩ := h
  cases e
  obtain ⟨ad', e', _, h2, _⟩ := hs.at_ hm
  cases e'
  exact .inl (by omega)
theorem BytesQ.after {w w' : World} {base : Nat} {v : Value} {l : List UInt8} (h : BytesQ w base v l) (hb : Below w.heap.size w w') : BytesQ w' base v l := by
  refine ⟨h.1.after hb, fun A m c ad e hm hA => ?_⟩
  rcases h.2 A m c ad e hm hA with h1 | ⟨cs, fr, h1⟩
  · exact .inl h1
  · have hl : ad.block < w.heap.size := by
      rcases Nat.lt_or_ge ad.block w.heap.size with hlt | hge
      · exact hlt
      · rw [Array.getElem?_eq_none hge] at h1; cases h1
    exact .inr ⟨cs, fr, (hb.block _ hl).trans h1⟩
/-- the block g, not below base and not of bytes, may change -/
theorem BytesQ.grown {w w' : World} {base : Nat} {v : Value} {l : List UInt8} {row : Option Nat} (h : BytesQ w base v l) (hg : w.grownBy w' row)
    (hr : ∀ g, row = some g → base ≤ g ∧ ∃ cs t fr, w.heap[g]? = some (.cells cs t fr) ∧ t ≠ 5) : BytesQ w' base v l := by
  obtain ⟨hi, A, c, rfl, hs⟩ := h.1.now |> fun x => (⟨_, x⟩ : ∃ hi, BytesIn w 0 hi v l)
  have off : ∀ ad, 0 < l.length → A = some ad → some ad.block ≠ row := by
    intro ad hn hA e
    obtain ⟨h1, cs, t, fr, h2, h3⟩ := hr _ e.symm
    rcases h.2 A _ c ad rfl hn hA with h4 | ⟨cs', fr', h4⟩
    · omega
    · rw [h4] at h2
      cases h2
      exact h3 rfl
  have hs' : Sl w' 0 w'.heap.size 1 A l.length c (l.map bv) := by
    refine ⟨hs.len, hs.cap, hs.max, fun hn => ?_⟩
    obtain ⟨ad, e, _, _, hc⟩ := hs.at_ hn
    have hlt := hs.lt (by decide) hn e
    have hkeep := hg.block ad.block hlt (off ad hn e)
    exact ⟨ad, e, Nat.zero_le _, Nat.lt_of_lt_of_le hlt hg.size, fun j u hu => (World.cell?_of_block (by rw [block_of_add]; exact hkeep)).trans (hc j u hu)⟩
  refine ⟨hs'.bytes, fun A' m c' ad e hm hA => ?_⟩
  cases e
  rcases h.2 A _ c ad rfl hm hA with h1 | ⟨cs, fr, h1⟩
  · exact .inl h1
  · have hlt := hs.lt (by decide) hm hA
    exact .inr ⟨cs, fr, (hg.block ad.block hlt (off ad hm hA)).trans h1⟩

theorem take_tot {v : Value} {l : List UInt8} (w : World) {lo hi : Nat} (ha : BytesIn w lo hi v l) (hT : Tab w) (hT0 : 0 < w.heap.size) :
    Calls Tryd.prog 18 #[v] w fun e w' => ∃ A c B d, e = .returned (.tuple #[.slice A (tP l).length c, .slice B (tR l).length d, .int .i64 (takeE l : Int)]) ∧
      (∀ base, BytesQ w' base (.slice A (tP l).length c) (tP l)) ∧ BytesIn w' lo hi (.slice B (tR l).length d) (tR l) ∧ Below w.heap.size w w' := by
  have bad : ∀ E : Nat, E ≠ 0 → takeE l = E → (Calls Tryd.prog 18 #[v] w fun e w' => e = .returned (.tuple #[.slice none 0 0, .slice none 0 0, .int .i64 (E : Int)]) ∧ Below w.heap.size w w') →
      Calls Tryd.prog 18 #[v] w fun e w' => ∃ A c B d, e = .returned (.tuple #[.slice A (tP l).length c, .slice B (tR l).length d, .int .i64 (takeE l : Int)]) ∧
      (∀ base, BytesQ w' base (.slice A (tP l).length c) (tP l)) ∧ BytesIn w' lo hi (.slice B (tR l).length d) (tR l) ∧ Below w.heap.size w w' := by
    intro E hE hEl h
    have e1 : tP l = [] := by unfold tP; rw [if_neg (by omega)]
    have e2 : tR l = [] := by unfold tR; rw [if_neg (by omega)]
    rw [e1, e2, hEl]
    exact h.mono fun e w' ⟨h1, h2⟩ => ⟨none, 0, none, 0, h1, fun base => bytesQ_nil w' base, bytes_none w' lo hi, h2⟩
  rcases takeE_cases l with ⟨h1, hE⟩ | ⟨h1, h2, hE⟩ | ⟨h1, h2, h3, hE⟩ | ⟨h2, h3, h4, hE⟩ | ⟨h2, h3, h4, hE⟩
  · exact bad 10 (by decide) hE (take_short w ha.bytes h1)
  · exact bad 2 (by decide) hE (take_long w ha.bytes h1 h2)
  · exact bad 10 (by decide) hE (take_few w ha.bytes h1 h2 h3)
  · exact bad 20 (by decide) hE (take_sum w ha.bytes hT hT0 h2 h3 h4)
  · have e1 : tP l = takeP l := by unfold tP; rw [if_pos hE]
    have e2 : tR l = takeR l := by unfold tR; rw [if_pos hE]
    rw [e1, e2, hE]
    refine (take_ok w ha hT hT0 h2 h3 h4).mono ?_
    rintro e w' ⟨u, r, rfl, hown, hr, hb⟩
    obtain ⟨A, c, rfl, -⟩ := own_sl hown
    obtain ⟨B, d, rfl, hB⟩ := hr
    exact ⟨A, c, B, d, rfl, fun base => own_bytesQ hown, hB.bytesIn, hb⟩
end Go.Proofs.YtciolppoanfiaaaDoor
