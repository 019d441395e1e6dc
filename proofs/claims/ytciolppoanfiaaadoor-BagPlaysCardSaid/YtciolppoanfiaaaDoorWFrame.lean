import Derived.Test.YtciolppoanfiaaaDoorWWriter
import Derived.Test.YtciolppoanfiaaaDoorWConcat
import Derived.Test.YtciolppoanfiaaaDoorWRefSum
namespace Go.Proofs.YtciolppoanfiaaaDoor
open Go.RowKit

/-- v is a slice of bytes that reads as l, in a block from lo to below hi. -/
def BytesIn (w : World) (lo hi : Nat) (v : Value) (l : List UInt8) : Prop := ∃ A c, v = .slice A l.length c ∧ Sl w lo hi 1 A l.length c (l.map bv)
/-- v is a slice of bytes that reads as l, wherever. -/
def Bytes (w : World) (v : Value) (l : List UInt8) : Prop := ∃ lo hi, BytesIn w lo hi v l
section
variable {w w' : World} {lo hi : Nat} {v : Value} {l : List UInt8}
theorem Sl.bytesIn {A : Option Addr} {n c : Nat} (h : Sl w lo hi 1 A n c (l.map bv)) : BytesIn w lo hi (.slice A n c) l := by
  have : n = l.length := by simpa using h.len.symm
  subst this
  exact ⟨A, c, rfl, h⟩
theorem Sl.bytes {A : Option Addr} {n c : Nat} (h : Sl w lo hi 1 A n c (l.map bv)) : Bytes w (.slice A n c) l := ⟨lo, hi, h.bytesIn⟩
theorem own_bytesIn {base n : Nat} {e : TypeId} (h : w.ownsRow base e 1 v n (l.map bv)) : BytesIn w base w.heap.size v l := by
  obtain ⟨A, c, rfl, hs⟩ := own_sl h
  exact hs.bytesIn
theorem own_bytes {base n : Nat} {e : TypeId} (h : w.ownsRow base e 1 v n (l.map bv)) : Bytes w v l := ⟨_, _, own_bytesIn h⟩
theorem BytesIn.bytes (h : BytesIn w lo hi v l) : Bytes w v l := ⟨lo, hi, h⟩
theorem BytesIn.wide {lo' hi' : Nat} (h : BytesIn w lo hi v l) (h1 : lo' ≤ lo) (h2 : hi ≤ hi') : BytesIn w lo' hi' v l := by
  obtain ⟨A, c, rfl, hs⟩ := h
  exact ⟨A, c, rfl, hs.wide h1 h2⟩
theorem BytesIn.after (h : BytesIn w lo hi v l) (hb : Below w.heap.size w w') : BytesIn w' lo hi v l := by
  obtain ⟨A, c, rfl, hs⟩ := h
  exact ⟨A, c, rfl, hs.after (by decide) hb⟩
theorem BytesIn.below {B : Nat} (h : BytesIn w lo hi v l) (hb : Below B w w') (hB : hi ≤ B) : BytesIn w' lo hi v l := by
  obtain ⟨A, c, rfl, hs⟩ := h
  exact ⟨A, c, rfl, hs.below hb hB⟩
theorem BytesIn.alloc (h : BytesIn w lo hi v l) (o : Obj) : BytesIn (w.alloc o) lo hi v l := by
  obtain ⟨A, c, rfl, hs⟩ := h
  exact ⟨A, c, rfl, hs.alloc (by decide) o⟩
theorem BytesIn.drewN (h : BytesIn w lo hi v l) (n : Nat) : BytesIn (w.drewN n) lo hi v l := by
  obtain ⟨A, c, rfl, hs⟩ := h
  exact ⟨A, c, rfl, hs.drewN n⟩
theorem BytesIn.setCell (h : BytesIn w lo hi v l) {p : Addr} (hp : p.block < lo ∨ hi ≤ p.block) (u : Value) : BytesIn (w.setCell p u) lo hi v l := by
  obtain ⟨A, c, rfl, hs⟩ := h
  exact ⟨A, c, rfl, hs.setCell hp u⟩
theorem BytesIn.grown {row : Option Nat} (h : BytesIn w lo hi v l) (hg : w.grownBy w' row) (hr : ∀ g, row = some g → g < lo ∨ hi ≤ g) : BytesIn w' lo hi v l := by
  obtain ⟨A, c, rfl, hs⟩ := h
  exact ⟨A, c, rfl, hs.grown (by decide) hg hr⟩
theorem Bytes.now (h : Bytes w v l) : BytesIn w 0 w.heap.size v l := by
  obtain ⟨lo, hi, A, c, rfl, hs⟩ := h
  exact ⟨A, c, rfl, (hs.now (by decide)).wide (Nat.zero_le _) (Nat.le_refl _)⟩
theorem Bytes.after (h : Bytes w v l) (hb : Below w.heap.size w w') : Bytes w' v l := (h.now.after hb).bytes
theorem Bytes.alloc (h : Bytes w v l) (o : Obj) : Bytes (w.alloc o) v l := (h.now.alloc o).bytes
theorem Bytes.drewN (h : Bytes w v l) (n : Nat) : Bytes (w.drewN n) v l := (h.now.drewN n).bytes
theorem rows1 (h1 : Bytes w v l) : Rows w [v] [l] := by
  refine ⟨rfl, fun i x y hx hy => ?_⟩
  match i, hx, hy with
  | 0, hx, hy =>
    simp at hx hy
    subst hx hy
    obtain ⟨lo, hi, A, c, e, hs⟩ := h1
    exact ⟨A, c, _, _, e, hs⟩
theorem rows_cons {vs : List Value} {ls : List (List UInt8)} (h1 : Bytes w v l) (h2 : Rows w vs ls) : Rows w (v :: vs) (l :: ls) := by
  refine ⟨by simpa using h2.1, fun i x y hx hy => ?_⟩
  match i, hx, hy with
  | 0, hx, hy =>
    simp at hx hy
    subst hx hy
    obtain ⟨lo, hi, A, c, e, hs⟩ := h1
    exact ⟨A, c, _, _, e, hs⟩
  | i + 1, hx, hy => exact h2.2 i x y (by simpa using hx) (by simpa using hy)
theorem rows2 {u : Value} {m : List UInt8} (h1 : Bytes w v l) (h2 : Bytes w u m) : Rows w [v, u] [l, m] := rows_cons h1 (rows1 h2)
theorem rows3 {u x : Value} {m k : List UInt8} (h1 : Bytes w v l) (h2 : Bytes w u m) (h3 : Bytes w x k) : Rows w [v, u, x] [l, m, k] := rows_cons h1 (rows2 h2 h3)
end
theorem same_v {u v : Value} {xs ys : List UInt8} {w : World} (ha : Bytes w u xs) (hb : Bytes w v ys) :
    Calls Tryd.prog 17 #[u, v] w fun e w' => e = .returned (.bool (xs == ys)) ∧ ∃ q, w' = w.drewN q := by
  obtain ⟨_, _, A, c, rfl, hs⟩ := ha
  obtain ⟨_, _, B, d, rfl, ht⟩ := hb
  exact same_any A B _ _ c d _ _ _ _ xs ys w hs ht
theorem sum_v {u : Value} {xs : List UInt8} {w : World} (ha : Bytes w u xs) (hT : Tab w) :
    Calls Tryd.prog 13 #[u] w fun e w' => e = .returned (.int .u32 (Crc.sum xs : Nat)) ∧ w = w' := by
  obtain ⟨_, _, A, c, rfl, hs⟩ := ha
  exact sum_any A _ c _ _ xs w hs hT
theorem refSum_v {u : Value} {xs : List UInt8} {w : World} (ha : Bytes w u xs) :
    Calls Tryd.prog 16 #[u] w fun e w' => e = .returned (.int .u32 (Crc.sum xs : Nat)) ∧ w = w' := by
  obtain ⟨_, _, A, c, rfl, hs⟩ := ha
  exact refSum_any A _ c _ _ xs w hs

set_option maxRecDepth 100000 in
set_option maxHeartbeats 400000 in
theorem wout_any (g n : Nat) (v : Value) (xs : List UInt8) (w : World) (hb : Blk w g 73 #[v]) (base : Nat) (hown : w.ownsRow base 5 1 v n (xs.map bv)) (hn : n ≤ 1000000) :
    Calls Tryd.prog 48 #[.pointer (some ⟨g, 0, none⟩)] w fun e w' =>
      ∃ u, e = .returned u ∧ w'.ownsRow w.heap.size 5 1 u n (xs.map bv) ∧ Below w.heap.size w w' := by
  obtain ⟨A, c, rfl, hs⟩ := own_sl hown
  have hc := hb.cell 0
  simp only [List.getElem?_toArray, List.getElem?_cons_zero] at hc
  go_enter Tryd.func48, Tryd.ntmps48
  go_wp2_with (go_at_call 52; refine (clone_any A n c _ _ xs _ hs hn).mono ?_; rintro e w1 ⟨u, rfl, hown1, hb1⟩)
  go_ret
  exact ⟨u, rfl, hown1, hb1⟩

set_option maxRecDepth 100000 in
set_option maxHeartbeats 400000 in
theorem head_any (n : Nat) (w : World) (hn : n ≤ 1000) :
    Calls Tryd.prog 45 #[.int .i64 (n : Int)] w fun e w' =>
      ∃ u, e = .returned u ∧ w'.ownsRow w.heap.size 5 1 u 2 ((num n 2).map bv) ∧ Below w.heap.size w w' := by
  go_enter Tryd.func45, Tryd.ntmps45
  go_wp2_with (first | (go_at_call 46; refine (wnum_any w.heap.size 0 n 2 _ [] _ (Blk.new _ _ _) (World.ownsRow_nil _ _ _ _) (by omega) (by omega) (by omega) (by omega)).mono ?_; rintro e w1 ⟨rfl, v1, hb1, hown1, hbel1⟩) | (go_at_call 48; refine (wout_any w.heap.size (0 + 2) v1 (num n 2) w1 hb1 _ hown1 (by omega)).mono ?_; rintro e w2 ⟨u, rfl, hown2, hbel2⟩))
  go_ret
  have hz := hbel1.size
  have h1 : w.heap.size ≤ w1.heap.size := by simp at hz; omega
  exact ⟨u, rfl, own_wide hown2 h1, (((Below.refl _ w).alloc (Nat.le_refl _) _).trans hbel1).trans (hbel2.mono h1)⟩

set_option maxRecDepth 100000 in
set_option maxHeartbeats 800000 in
theorem refNumber_any (N size : Nat) (w : World) (hN : N < 18446744073709551616) (hs8 : size ≤ 8) :
    Calls Tryd.prog 49 #[.int .u64 (N : Int), .int .i64 (size : Int)] w fun e w' =>
      ∃ v, e = .returned v ∧ w'.ownsRow w.heap.size 5 1 v size ((num N size).map bv) ∧ Below w.heap.size w w' := by
  obtain ⟨i0, hi0, hz0, hz1, hz2⟩ := info_parts u8_info
  have t2 : decide ((8 : Int) < size) = false := by simp; omega
  go_enter Tryd.func49, Tryd.ntmps49
  go_wp2
  go_loopw [0, 5, 6] (fun n v i wr => ∃ k : Nat, k ≤ size ∧ i = .int .i64 k ∧ n = .int .u64 ((N >>> (8 * k) : Nat) : Int) ∧ wr.ownsRow w.heap.size 5 1 v k ((num N k).map bv) ∧ Below w.heap.size w wr) (fun _ _ i _ => size - (intOf i).toNat)
  case atStart => exact ⟨0, Nat.zero_le _, rfl, by simp, World.ownsRow_nil _ _ _ _, Below.refl _ _⟩
  case round =>
    obtain ⟨k, hk, rfl, rfl, hown, hbel⟩ := hrel
    clear t2
    by_cases hlt : k < size
    · obtain ⟨b, hbd⟩ : ∃ b, UInt8.ofNat (N >>> (8 * k)) = b := ⟨_, rfl⟩
      have hM : N >>> (8 * k) < 18446744073709551616 := by rw [Nat.shiftRight_eq_div_pow]; exact Nat.lt_of_le_of_lt (Nat.div_le_self _ _) hN
      have hv8 : ((N >>> (8 * k) : Nat) : Int) % 256 = (b.toNat : Int) := by
        rw [← hbd, UInt8.toNat_ofNat']
        simp
      have hq : ((N >>> (8 * k) : Nat) : Int) / 256 = ((N >>> (8 * (k + 1)) : Nat) : Int) := by
        have e : N >>> (8 * (k + 1)) = N >>> (8 * k) / 256 := by
          rw [show 8 * (k + 1) = 8 * k + 8 by omega, Nat.shiftRight_add, Nat.shiftRight_eq_div_pow _ 8]
        rw [e]; omega
      have Hbd := Lib.hid hbd
      have Hq := Lib.hid hq
      clear hbd hq
      have hb8 : b.toNat < 256 := b.toNat_lt
      generalize N >>> (8 * k) = M at hM hv8 Hq ⊢
      have hsz := hbel.size
      go_wp2_with (at_builtin; refine wpList_app _ rfl (.tmp 15) (.tmp 19) 22 rfl w.heap.size 5 i0 _ 1 1 Tryd.underlying22 hi0 hz0 hz1 hz2 rfl (by omega) u5 k _ rfl (hown.alloc _) wr.heap.size (wr.heap.size + 1) (some ⟨wr.heap.size, 0, none⟩) 1 1 [bv b] rfl (sl_one _ _ _) (one_bv b) (by simp only [maxLen]; omega) (by omega) (by simp; omega) ?_; intro v2 w2 hown2 hg2 hat2)
      go_roundw
      case rel =>
        refine ⟨k + 1, by omega, by go_num, by rw [Hq.out], ?_, (hbel.alloc hsz _).grown hg2 (by simp; omega) (fun q e => (hown.lt q e).1)⟩
        have e : (num N (k + 1)).map bv = (num N k).map bv ++ [bv b] := by simp [num, Hbd.out]
        rw [e]
        exact hown2
      case measure => simp [intOf]; omega
    · go_wp2
      go_ret
      have hks : k = size := by omega
      subst hks
      exact ⟨_, rfl, hown, hbel⟩

def frameOf (l : List UInt8) : List UInt8 := num l.length 2 ++ (num (Crc.sum (num l.length 2 ++ l)) 4 ++ l)
theorem frameOf_len (l : List UInt8) : (frameOf l).length = l.length + 6 := by simp [frameOf, num_len]; omega

set_option maxRecDepth 100000 in
set_option maxHeartbeats 400000 in
theorem frame_long {v : Value} {l : List UInt8} (w : World) (ha : Bytes w v l) (h : 1000 < l.length) :
    Calls Tryd.prog 14 #[v] w fun e w' => e = .returned (.tuple #[.slice none 0 0, .int .i64 2]) ∧ w = w' := by
  obtain ⟨_, _, A, c, rfl, hs⟩ := ha
  clear hs
  generalize l.length = n at h
  go_enter Tryd.func14, Tryd.ntmps14
  go_wp2
  go_ret2
  exact ⟨rfl, rfl⟩

set_option maxRecDepth 100000 in
set_option maxHeartbeats 800000 in
theorem frame_ok {v : Value} {l : List UInt8} (w : World) (ha : Bytes w v l) (hT : Tab w) (hT0 : 0 < w.heap.size) (h : l.length ≤ 1000) :
    Calls Tryd.prog 14 #[v] w fun e w' => ∃ u, e = .returned (.tuple #[u, .int .i64 0]) ∧ w'.ownsRow w.heap.size 5 1 u (l.length + 6) ((frameOf l).map bv) ∧ Below w.heap.size w w' := by
  have hl : total [num l.length 2, l] = l.length + 2 := by simp [total, num_len]; omega
  have hsum := Crc.sum_lt (num l.length 2 ++ l)
  have Hl := Lib.hid hl
  clear hl
  have ha0 := ha
  obtain ⟨_, _, A, c, rfl, hs⟩ := ha
  clear hs
  go_enter Tryd.func14, Tryd.ntmps14
  have hnum : (num l.length 2).length = 2 := num_len _ _
  have Hnum := Lib.hid hnum
  clear hnum
  go_wp2_with (first | (go_at_call 45; refine (head_any l.length _ h).mono ?_; rintro e w1 ⟨u1, rfl, hown1, hbel1⟩; obtain ⟨A1, c1, rfl, -⟩ := own_sl hown1; have hz1 := hbel1.size) | fail)
  have hT2 := Tab.below hT hbel1 hT0
  have hb2 : Below w.heap.size w (w1.alloc (Obj.cells #[Value.slice none 0 0] 73)) := hbel1.alloc hz1 _
  have hr2 : Rows ((w1.alloc (Obj.cells #[Value.slice none 0 0] 73)).alloc (Obj.cells #[Value.slice A1 2 c1, Value.slice A l.length c] 22)) [Value.slice A1 2 c1, Value.slice A l.length c] [num l.length 2, l] :=
    rows2 (((own_bytes hown1).alloc _).alloc _) ((ha0.after hb2).alloc _)
  go_wp2_with (first | (go_at_call 47; refine (concat_any _ 2 2 _ _ _ _ _ (sl_at _ (w1.heap.size + 1) 1 2 2 #[Value.slice A1 2 c1, Value.slice A l.length c] 22 (by simp) rfl (by omega) (by omega)) hr2 (by have := Hl.out; omega) (by omega)).mono ?_; rintro e w2 ⟨u2, rfl, hown2, hbel2⟩) | fail)
  have hs2 := hbel2.size
  simp only [World.size_alloc] at hs2
  have hb3 : Below w.heap.size w w2 := (hb2.alloc (by simp; omega) _).trans (hbel2.mono (by simp; omega))
  have hg2 : Blk w2 w1.heap.size 73 #[Value.slice none 0 0] := ((Blk.new w1 _ _).alloc _).after hbel2
  have hu2 : Bytes w2 u2 (num l.length 2 ++ l) := by
    have := own_bytes hown2
    simpa using this
  have hu1 : BytesIn w2 w.heap.size w1.heap.size (Value.slice A1 2 c1) (num l.length 2) := (((own_bytesIn hown1).alloc _).alloc _).after hbel2
  have hT3 : Tab w2 := Tab.below hT hb3 hT0
  clear hown2 hr2 hown1 hT2 hT
  obtain ⟨S, hS⟩ : ∃ S, Crc.sum (num l.length 2 ++ l) = S := ⟨_, rfl⟩
  have HS := Lib.hid hS
  rw [hS] at hsum
  go_wp2_with (first | (go_at_call 13; refine (sum_v hu2 hT3).mono ?_; rw [HS.out]; clear hS; rintro e w' ⟨rfl, rfl⟩) | fail)
  go_wp2_with (first | (go_at_call 46; refine (wnum_any w1.heap.size 0 S 4 _ [] _ hg2 (World.ownsRow_nil _ _ _ _) (by omega) (by omega) (by omega) (by omega)).mono ?_; rintro e w3 ⟨rfl, v3, hg3, hown3, hbel3⟩) | fail)
  have hs3 := hbel3.size
  have hb4 : Below w.heap.size w w3 := hb3.trans (hbel3.mono hz1)
  have hu3 : Bytes w3 (Value.slice A1 2 c1) (num l.length 2) := (hu1.below hbel3 (Nat.le_refl _)).bytes
  go_wp2_with (first | (go_at_call 48; refine (wout_any w1.heap.size (0 + 4) v3 (num S 4) w3 hg3 _ hown3 (by omega)).mono ?_; rintro e w4 ⟨u4, rfl, hown4, hbel4⟩; obtain ⟨A4, c4, rfl, -⟩ := own_sl hown4) | fail)
  have hb5 : Below w.heap.size w w4 := hb4.trans (hbel4.mono (by omega))
  have hr5 : Rows (w4.alloc (Obj.cells #[Value.slice A1 2 c1, Value.slice A4 4 c4, Value.slice A l.length c] 22)) [Value.slice A1 2 c1, Value.slice A4 4 c4, Value.slice A l.length c] [num l.length 2, num S 4, l] :=
    rows3 ((hu3.after hbel4).alloc _) ((own_bytes hown4).alloc _) ((ha0.after hb5).alloc _)
  have hl5 : total [num l.length 2, num S 4, l] = l.length + 6 := by simp [total, num_len]; omega
  have hs4 := hbel4.size
  clear hown3 hown4 hg3 hu1 hu2 hu3 hg2
  have Hl5 := Lib.hid hl5
  clear hl5
  go_wp2_with (first | (go_at_call 47; refine (concat_any _ 3 3 _ _ _ _ _ (sl_at _ w4.heap.size 1 3 3 #[Value.slice A1 2 c1, Value.slice A4 4 c4, Value.slice A l.length c] 22 rfl rfl (by omega) (by omega)) hr5 (by have := Hl5.out; omega) (by omega)).mono ?_; rintro e w5 ⟨u5, rfl, hown5, hbel5⟩) | fail)
  go_ret2
  have h6 : (w4.alloc (Obj.cells #[Value.slice A1 2 c1, Value.slice A4 4 c4, Value.slice A l.length c] 22)).heap.size = w4.heap.size + 1 := by simp
  refine ⟨u5, rfl, ?_, (hb5.alloc (by omega) _).trans (hbel5.mono (by omega))⟩
  rw [Hl5.out] at hown5
  have e : [num l.length 2, num S 4, l].flatten = frameOf l := by simp [frameOf, HS.out]
  rw [e] at hown5
  exact own_wide hown5 (by omega)
end Go.Proofs.YtciolppoanfiaaaDoor
