import Derived.Test.YtciolppoanfiaaaDoorWCheckTakes
import Derived.Test.YtciolppoanfiaaaDoorOwnZ
namespace Go.Proofs.YtciolppoanfiaaaDoor
open Go.RowKit

theorem le_num (n k : Nat) : le (num n k) = n % 256 ^ k := by
  induction k with
  | zero => simp [num, le, Nat.mod_one]
  | succ k ih =>
    simp only [num]
    have h : (2 : Nat) ^ (8 * k) = 256 ^ k := by rw [Nat.pow_mul]
    have h : (2 : Nat) ^ (8 * k) = 256 ^ k := by rw [Nat.pow_mul]
    have h9 : n % 256 ^ (k + 1) = n % 256 ^ k + 256 ^ k * (n / 256 ^ k % 256) := Nat.mod_pow_succ
    rw [le_snoc, num_len, ih, UInt8.toNat_ofNat', Nat.shiftRight_eq_div_pow, h, h9, Nat.mul_comm]
theorem frame_take2 (p r : List UInt8) : (frameOf p ++ r).take 2 = num p.length 2 := by
  unfold frameOf
  rw [List.append_assoc, List.take_append_of_le_length (by simp [num_len])]
  exact List.take_of_length_le (by simp [num_len])
theorem frame_drop2 (p r : List UInt8) : (frameOf p ++ r).drop 2 = num (Crc.sum (num p.length 2 ++ p)) 4 ++ (p ++ r) := by
  unfold frameOf
  rw [List.append_assoc, List.drop_append_of_le_length (by simp [num_len]), List.drop_of_length_le (by simp [num_len])]
  simp
theorem frame_drop6 (p r : List UInt8) : (frameOf p ++ r).drop 6 = p ++ r := by
  have : (frameOf p ++ r).drop 6 = ((frameOf p ++ r).drop 2).drop 4 := by rw [List.drop_drop]
  rw [this, frame_drop2, List.drop_append_of_le_length (by simp [num_len]), List.drop_of_length_le (by simp [num_len])]
  simp
theorem frame_le (p r : List UInt8) (h : p.length ≤ 1000) : le ((frameOf p ++ r).take 2) = p.length := by
  rw [frame_take2, le_num]
  exact Nat.mod_eq_of_lt (by have : (256 : Nat) ^ 2 = 65536 := by decide
                             omega)
/-- What is framed is taken. -/
theorem take_frame (p r : List UInt8) (h : p.length ≤ 1000) : takeE (frameOf p ++ r) = 0 ∧ takeP (frameOf p ++ r) = p ∧ takeR (frameOf p ++ r) = r := by
  have h1 := frame_le p r h
  have h2 : (frameOf p ++ r).length = p.length + 6 + r.length := by rw [List.length_append, frameOf_len]
  have h3 : le (((frameOf p ++ r).drop 2).take 4) = Crc.sum (num p.length 2 ++ p) := by
    rw [frame_drop2, List.take_append_of_le_length (by simp [num_len]), List.take_of_length_le (by simp [num_len]), le_num]
    exact Nat.mod_eq_of_lt (by have := Crc.sum_lt (num p.length 2 ++ p)
                               have : (256 : Nat) ^ 4 = 4294967296 := by decide
                               omega)
  refine ⟨?_, ?_, ?_⟩
  · unfold takeE
    rw [h1, h3, frame_take2, frame_drop6, List.take_left' rfl, if_neg (by omega), if_neg (by omega), if_neg (by omega), if_neg (by simp)]
  · unfold takeP
    rw [h1, frame_drop6, List.take_left' rfl]
  · unfold takeR
    rw [h1, ← List.drop_drop, frame_drop6, List.drop_left' rfl]
theorem all_frames (ls : List (List UInt8)) (k : Nat) (hk : k ≤ 5) (h : ∀ l ∈ ls, l.length ≤ 1000) :
    all ((ls.map frameOf).flatten ++ List.replicate k 0) = (ls, List.replicate k 0, if k = 0 then 0 else 10) := by
  induction ls with
  | nil =>
    simp only [List.map_nil, List.flatten_nil, List.nil_append]
    by_cases h0 : k = 0
    · subst h0; rfl
    · have hE : takeE (List.replicate k (0 : UInt8)) = 10 := by unfold takeE; rw [if_pos (by simp; omega)]
      rw [all_bad _ (by simp; omega) (by omega), hE, if_neg h0]
  | cons p ls ih =>
    obtain ⟨h1, h2, h3⟩ := take_frame p ((ls.map frameOf).flatten ++ List.replicate k 0) (h p (List.mem_cons_self ..))
    simp only [List.map_cons, List.flatten_cons, List.append_assoc]
    have hne : frameOf p ++ ((ls.map frameOf).flatten ++ List.replicate k 0) ≠ [] := by
      intro e
      have := congrArg List.length e
      rw [List.length_append, frameOf_len] at this
      simp at this
    rw [all_ok _ hne h1, h2, h3, ih (fun l hl => h l (List.mem_cons_of_mem _ hl))]
/-- v is a slice of slices of bytes that reads as ls, each a list of bytes -/
def Bss (w : World) (v : Value) (ls : List (List UInt8)) : Prop := ∃ A c vs lo hi, v = .slice A ls.length c ∧ Sl w lo hi 1 A ls.length c vs ∧ Rows w vs ls
def framed (ls : List (List UInt8)) : List UInt8 := (ls.map frameOf).flatten
theorem framed_next {ls : List (List UInt8)} {k : Nat} {z : List UInt8} (h : ls[k]? = some z) : framed (ls.take (k + 1)) = framed (ls.take k) ++ frameOf z := by
  unfold framed
  rw [List.take_add_one, h]
  simp

set_option maxRecDepth 100000 in
set_option maxHeartbeats 1600000 in
theorem checkBack_any {v : Value} {ls : List (List UInt8)} {left : Int} (w : World) (ha : Bss w v ls) (hl : -9223372036854775808 ≤ left ∧ left ≤ 9223372036854775807) (hT : Tab w) (hT0 : 0 < w.heap.size) :
    Calls Tryd.prog 6 #[v, .int .i64 left] w fun e w' => e = .returned (.bool true) ∧ Below w.heap.size w w' := by
  obtain ⟨i0, hi0, hz0, hz1, hz2⟩ := info_parts u8_info
  obtain ⟨A, c, vs, lo, hi, rfl, hs, hrows⟩ := ha
  have hcap : ls.length ≤ c := hs.cap
  have hmax := hs.max
  obtain ⟨N, hN⟩ : ∃ N, ls.length = N := ⟨_, rfl⟩
  rw [hN] at hs hcap ⊢
  have HN := Lib.hid hN
  clear hN
  by_cases hq : 10 < N ∨ left < 0 ∨ 5 < left
  · go_enter Tryd.func6, Tryd.ntmps6
    go_wp2_with (go_at_call 12; refine (awake2_any w hT hT0).mono ?_; rintro e w1 ⟨rfl, hb1⟩)
    all_goals (go_ret; exact ⟨rfl, hb1⟩)
  · obtain ⟨k5, rfl⟩ : ∃ k5 : Nat, left = k5 := ⟨left.toNat, by omega⟩
    have hN10 : N ≤ 10 := by omega
    have hk5 : k5 ≤ 5 := by omega
    clear hq hl
    go_enter Tryd.func6, Tryd.ntmps6
    go_wp2_with (go_at_call 12; refine (awake2_any w hT hT0).mono ?_; rintro e w1 ⟨rfl, hb1⟩)
    go_loopw [6, 7] (fun u i wr => ∃ (k m : Nat) (L : List UInt8), k ≤ N ∧ i = .int .i64 k ∧ L = framed (ls.take k) ∧ L.length = m ∧ m ≤ 306 * k ∧ (∀ z ∈ ls.take k, z.length ≤ 300) ∧ wr.ownsRow w.heap.size 5 1 u m (L.map bv) ∧ Below w.heap.size w wr) (fun _ i _ => N - (intOf i).toNat)
    case atStart => exact ⟨0, 0, [], Nat.zero_le _, rfl, rfl, rfl, Nat.zero_le _, by simp, World.ownsRow_nil _ _ _ _, hb1⟩
    case round =>
      obtain ⟨k, m, L, hk, rfl, hL, hm, hmk, hz300, hown, hbr⟩ := hrel
      have hsz := hbr.size
      obtain ⟨A2, c2, rfl, hsl2⟩ := own_sl hown
      by_cases hlt : k < N
      · have hs' := hs.after (by decide) hbr
        have hs0 := hs'
        obtain ⟨ad, x, rfl, hx, hcx⟩ := hs'.nth hlt
        obtain ⟨z, hz⟩ : ∃ z, ls[k]? = some z := ⟨_, List.getElem?_eq_getElem (by have := HN.out; omega)⟩
        obtain ⟨A6, c6, lo6, hi6, rfl, hs6⟩ := (hrows.after hbr).2 k x z hx hz
        have h6 := hs6.bytes
        have hfn := framed_next hz
        have hcap6 : z.length ≤ c6 := hs6.cap
        have hmax6 := hs6.max
        obtain ⟨q, hq⟩ : ∃ q, z.length = q := ⟨_, rfl⟩
        have hHz := Lib.hid (And.intro hz (And.intro hfn hL))
        clear hz hfn hL hs hs' hrows hx hs6
        rw [hq] at h6 hcap6 hcx
        by_cases h3 : 300 < q
        · have Hq := Lib.hid hq
          clear hq
          go_wp2_with fail
          go_ret
          exact ⟨rfl, hbr⟩
        · have hfr := frame_val (F := frameOf z) (n := q + 6) wr (by rw [← hq] at h6; exact h6) (hT.below hbr hT0) (Nat.lt_of_lt_of_le hT0 hsz) (by omega) (by omega) rfl
          have hFl : (frameOf z).length = q + 6 := by rw [frameOf_len, hq]
          rw [hq] at hfr
          have Hq := Lib.hid hq
          clear hq
          generalize frameOf z = F at hfr hFl hHz
          go_wp2_with fail
          refine hfr.mono ?_
          rintro e w2 ⟨A3, c3, rfl, hown3, hb2⟩
          have hb2' := hb2.mono hsz
          have hsz2 := hb2.size
          obtain ⟨_, _, e3, hsl3⟩ := own_sl hown3
          cases e3
          have hcx2 : w2.cell? (ad.add k) = some (.slice A6 q c6) := (hb2.cell (World.block_lt_of_cell? wr _ hcx)).trans hcx
          clear hcx
          have hn6 : ((q + 6 : Nat) : Int) = (q : Int) + 6 := by omega
          go_wp2_with (at_builtin; go_must (refine wpList_app _ rfl (.tmp 61) (.tmp 62) 22 rfl w.heap.size 5 i0 _ 1 1 Tryd.underlying22 hi0 hz0 hz1 hz2 rfl (by omega) (.slice A2 m c2) m _ rfl (own_after hown hb2) _ _ A3 (q + 6) c3 _ rfl hsl3 (bv_one _) (by simp only [maxLen]; omega) (by omega) (by omega) ?_; intro v4 w4 hown4 hg4 hat4))
          go_roundw
          case rel =>
            obtain ⟨hz, hfn, hL⟩ := hHz.out
            have hzq := Hq.out
            refine ⟨k + 1, m + (q + 6), L ++ F, by omega, by go_num, ?_, ?_, by omega, ?_, ?_, ?_⟩
            · rw [hfn, hL]
            · rw [List.length_append, hm, hFl]
            · intro y hy
              rw [List.take_add_one, hz] at hy
              rcases List.mem_append.1 hy with h | h
              · exact hz300 y h
              · have : y = z := by simpa using h
                subst this
                omega
            · rw [List.map_append]
              exact hown4
            · exact (hbr.trans hb2').grown hg4 (by omega) (fun q e => (hown.lt q e).1)
          case measure => simp [intOf]; omega
      · obtain rfl : k = N := by omega
        have hall := all_frames ls k5 hk5 (by
          intro z hz
          have := HN.out
          have := hz300 z (by rw [List.take_of_length_le (by omega)]; exact hz)
          omega)
        have hLL : L = (ls.map frameOf).flatten := by
          have := HN.out
          rw [hL, List.take_of_length_le (by omega)]
          rfl
        rw [← hLL] at hall
        obtain ⟨v5, w5, hr5, hown5, hg5⟩ := run_app_zeros (P := Tryd.prog) wr w.heap.size 22 3 22 5 i0 (.int .u8 0) 1 .i64 Tryd.underlying22 Tryd.underlying3 hi0 hz0 hz1 hz2 rfl rfl _ m _ hown k5 (by simp only [maxLen]; omega) (by omega) hsz
        have hbr5 : Below w.heap.size w w5 := hbr.grown hg5 (by omega) (fun q e => (hown.lt q e).1)
        have hb5 : Below wr.heap.size wr w5 ∨ True := .inr trivial
        obtain ⟨A5, c5, rfl, -⟩ := own_sl hown5
        have hby : Bytes w5 (.slice A5 (m + k5) c5) (L ++ List.replicate k5 0) := own_bytes (by rw [List.map_append, List.map_replicate]; exact hown5)
        have hlen : (L ++ List.replicate k5 0).length ≤ 1000000 := by rw [List.length_append, List.length_replicate]; omega
        have hs5 := hs.now (by decide) |>.below hbr5 (Nat.le_refl _)
        have hrows5 := hrows.after hbr5
        have Hall := Lib.hid hall
        have HZ := Lib.hid (And.intro hz300 (And.intro hL hLL))
        clear hall hz300 hL hLL hb5 hs hrows
        generalize (L ++ List.replicate k5 0) = b at hby hlen Hall
        go_wp2_with (at_builtin; go_must (refine Lib.wpList_append_run _ rfl (.tmp 64) (.tmp 65) 22 3 rfl _ _ rfl rfl _ _ hr5 ?_))
        have hbT := (hT.below hbr5 hT0)
        have hsz5 := hbr5.size
        have hgot0 := all_any w5 hby hbT (Nat.lt_of_lt_of_le hT0 hsz5) hlen
        unfold AllGot at hgot0
        rw [Hall.out] at hgot0
        simp only [HN.out, List.length_replicate] at hgot0
        refine hgot0.mono ?_
        rintro e w6 ⟨u6, r6, E6, rfl, ⟨A6, c6, vs6, B6, d6, rfl, rfl, rfl, ⟨_, _, hs6⟩, hrows6, hbr6⟩, hb6⟩
        have D6 := hbr5.trans (hb6.mono hsz5)
        have hs7 := hs5.after (by decide) hb6
        have hrows7 := hrows5.after hb6
        have hcap6 := hs6.cap
        have hmax6 := hs6.max
        clear hgot0 hs5 hrows5 hby hr5 hown5 hown hsl2
        obtain ⟨E, hE, hEk⟩ : ∃ E : Int, ((if k5 = 0 then 0 else 10 : Nat) : Int) = E ∧ ((k5 = 0 ∧ E = 0) ∨ (0 < k5 ∧ E = 10)) := by
          by_cases h0 : k5 = 0
          · exact ⟨_, rfl, .inl ⟨h0, by simp [h0]⟩⟩
          · exact ⟨_, rfl, .inr ⟨by omega, by simp [h0]⟩⟩
        rw [hE]
        clear hE
        clear HZ hm hmk hsz hbr hg5 hbr5 hbr6
        rcases hEk with ⟨rfl, rfl⟩ | ⟨hp5, rfl⟩
        all_goals
          go_wp2_with fail
          go_loopw [13] (fun i w8 => ∃ j : Nat, j ≤ k ∧ i = .int .i64 j ∧ Below w6.heap.size w6 w8) (fun i _ => k - (intOf i).toNat)
          case atStart => exact ⟨0, Nat.zero_le _, rfl, Below.refl _ _⟩
          case round =>
            obtain ⟨j, hj, rfl, hb8⟩ := hrel
            by_cases hlt : j < k
            · obtain ⟨ad, x, rfl, hx, hcx⟩ := (hs7.after (by decide) hb8).nth hlt
              obtain ⟨bd, y, rfl, hy, hcy⟩ := (hs6.after (by decide) hb8).nth hlt
              obtain ⟨z, hz⟩ : ∃ z, ls[j]? = some z := ⟨_, List.getElem?_eq_getElem (by have := HN.out; omega)⟩
              obtain ⟨A8, c8, lo8, hi8, rfl, hs8⟩ := (hrows7.after hb8).2 j x z hx hz
              obtain ⟨A9, c9, lo9, hi9, rfl, hs9⟩ := (hrows6.after hb8).2 j y z hy hz
              have h8 := hs8.bytes
              have h9 := hs9.bytes
              clear hx hy hz hs6 hs7 hrows6 hrows7 hs8 hs9
              go_wp2_with fail
              go_quiet ((go_at_call 17; exact Calls.quiet_of (same_quiet (b := true) (h8.drewN _) (h9.drewN _) (by simp))))
              go_wp2
              go_roundw
              case rel => exact ⟨j + 1, by omega, by go_num, below_drewN hb8 _⟩
              case measure => simp [intOf]; omega
            · clear hs6 hs7 hrows6 hrows7
              go_wp2_with fail
              go_ret
              exact ⟨rfl, D6.trans (hb8.mono D6.size)⟩
end Go.Proofs.YtciolppoanfiaaaDoor
