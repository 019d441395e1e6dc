import Derived.Test.YtciolppoanfiaaaDoorBytesK
import Derived.Test.YtciolppoanfiaaaDoorWTake
import Derived.Test.YtciolppoanfiaaaDoorWRefFrame
import Derived.Laws.OwnMore
namespace Go.Proofs.YtciolppoanfiaaaDoor
open Go.RowKit

theorem Tab.alloc {w : World} (h : Tab w) (h0 : 0 < w.heap.size) (o : Obj) : Tab (w.alloc o) := h.below ((Below.refl w.heap.size w).alloc (Nat.le_refl _) o) h0
theorem bytes_lit (w : World) (g n : Nat) (l : List UInt8) (cs : Array Value) (t : TypeId) (hg : w.heap.size = g) (h : cs.toList = l.map bv) (hn : cs.size = n) (hm : n ≤ 1000) : Bytes (w.alloc (.cells cs t)) (.slice (some ⟨g, 0, none⟩) n n) l := by
  have := sl_at w g 1 n n cs t hg (by omega) (Nat.le_refl _) (by omega)
  rw [h] at this
  exact this.bytes
theorem sum_val {u : Value} {xs : List UInt8} {w : World} {S : Nat} (ha : Bytes w u xs) (hT : Tab w) (h : Crc.sum xs = S) :
    Calls Tryd.prog 13 #[u] w fun e w' => e = .returned (.int .u32 (S : Int)) ∧ Below w.heap.size w w' := by
  rw [← h]
  exact (sum_v ha hT).mono fun _ _ ⟨h1, h2⟩ => ⟨h1, h2 ▸ Below.refl _ _⟩
theorem frame_val {v : Value} {l F : List UInt8} {n : Nat} (w : World) (ha : Bytes w v l) (hT : Tab w) (hT0 : 0 < w.heap.size) (h : l.length ≤ 1000) (hn : l.length + 6 = n) (hF : frameOf l = F) :
    Calls Tryd.prog 14 #[v] w fun e w' => ∃ A c, e = .returned (.tuple #[.slice A n c, .int .i64 0]) ∧ w'.ownsRow w.heap.size 5 1 (.slice A n c) n (F.map bv) ∧ Below w.heap.size w w' := by
  subst hn hF
  refine (frame_ok w ha hT hT0 h).mono ?_
  rintro e w' ⟨u, rfl, hown, hb⟩
  obtain ⟨A, c, rfl, -⟩ := own_sl hown
  exact ⟨A, c, rfl, hown, hb⟩
theorem take_val {v : Value} {l p r : List UInt8} (w : World) (ha : Bytes w v l) (hT : Tab w) (hT0 : 0 < w.heap.size) (hbig : le (l.take 2) ≤ 1000) (hfew : 6 + le (l.take 2) ≤ l.length)
    (hsum : Crc.sum (l.take 2 ++ (l.drop 6).take (le (l.take 2))) = le ((l.drop 2).take 4)) (hp : takeP l = p) (hr : takeR l = r) :
    Calls Tryd.prog 18 #[v] w fun e w' => ∃ A c B d, e = .returned (.tuple #[.slice A p.length c, .slice B r.length d, .int .i64 0]) ∧ Bytes w' (.slice A p.length c) p ∧ Bytes w' (.slice B r.length d) r ∧ Below w.heap.size w w' := by
  subst hp hr
  refine (take_ok w ha.now hT hT0 hbig hfew hsum).mono ?_
  rintro e w' ⟨u, s, rfl, hown, hs, hb⟩
  obtain ⟨A, c, rfl, -⟩ := own_sl hown
  obtain ⟨B, d, rfl, hB⟩ := hs
  exact ⟨A, c, B, d, rfl, own_bytes hown, hB.bytes, hb⟩
theorem own_form {w : World} {base n : Nat} {e : TypeId} {v : Value} {xs : List Value} (h : w.ownsRow base e 1 v n xs) (hn : 0 < n) : ∃ g c, v = .slice (some ⟨g, 0, none⟩) n c ∧ base ≤ g ∧ n ≤ c := by
  obtain ⟨g, cap, hv, hb, _⟩ := h.form hn
  rcases h.2 with ⟨_, h0⟩ | ⟨g', cap', _, hv', _, _, hc, _⟩
  · omega
  · rw [hv] at hv'
    cases hv'
    exact ⟨g, cap, hv, hb, hc⟩
def F78 : List UInt8 := frameOf [7, 8]

set_option maxRecDepth 100000 in
set_option maxHeartbeats 1600000 in
theorem awake2_any (w : World) (hT : Tab w) (hT0 : 0 < w.heap.size) :
    Calls Tryd.prog 12 #[] w fun e w' => e = .returned (.bool true) ∧ Below w.heap.size w w' := by
  obtain ⟨i0, hi0, hz0, hz1, hz2⟩ := info_parts u8_info
  go_enter Tryd.func12, Tryd.ntmps12
  go_wp2_with fail
  refine (sum_val (S := 3421780262) (bytes_lit w w.heap.size 9 [49, 50, 51, 52, 53, 54, 55, 56, 57] _ _ rfl rfl rfl (by omega)) (hT.alloc hT0 _) (by decide)).mono ?_
  rintro e w1 ⟨rfl, hb1⟩
  have B1 := ((Below.refl w.heap.size w).alloc (Nat.le_refl _) _).trans (hb1.mono (by simp))
  clear hb1
  go_wp2_with fail
  refine (sum_val (S := 0) (bytes_nil _) (hT.below B1 hT0) (by decide)).mono ?_
  rintro e w2 ⟨rfl, hb2⟩
  have B2 := B1.trans (hb2.mono B1.size)
  clear hb2 B1
  have T2 := hT.below B2 hT0
  have z2 := B2.size
  go_wp2_with fail
  refine (frame_val (n := 8) (F := F78) _ (bytes_lit w2 w2.heap.size 2 [7, 8] _ _ rfl rfl rfl (by omega)) (T2.alloc (by omega) _) (by simp) (by decide) rfl rfl).mono ?_
  rintro e w3 ⟨A3, c3, rfl, hown3, hb3⟩
  have B3 := (B2.alloc z2 _).trans (hb3.mono (by simp; omega))
  have z3 := B3.size
  clear hb3 T2 B2
  have S3 := own_bytes hown3
  obtain ⟨_, _, hs3⟩ : ∃ lo hi, Sl w3 lo hi 1 A3 8 c3 (F78.map bv) := by
    obtain ⟨A, c, e, hs⟩ := own_sl hown3
    cases e
    exact ⟨_, _, hs⟩
  go_wp2_with (first
    | (at_builtin; have _g := z4; go_must (refine wpList_app _ rfl (.tmp 23) (.tmp 24) 22 rfl w3.heap.size 5 i0 _ 1 1 Tryd.underlying22 hi0 hz0 hz1 hz2 rfl (by omega) v4 (0 + 8) _ rfl (hown4.alloc _) _ _ (some ⟨w4.heap.size, 0, none⟩) 1 1 [bv 9] rfl (sl_one _ _ _) (one_bv 9) (by simp only [maxLen]; omega) (by omega) (by simp; omega) ?_; intro v5 w5 hown5 hg5 hat5))
    | (at_builtin; go_must (refine wpList_app _ rfl (.tmp 21) (.tmp 22) 22 rfl w3.heap.size 5 i0 _ 1 1 Tryd.underlying22 hi0 hz0 hz1 hz2 rfl (by omega) (.slice (some ⟨w3.heap.size, 0, none⟩) 0 0) 0 [] rfl (own_empty w3 w3.heap.size 1 5 rfl) _ _ A3 8 c3 (F78.map bv) rfl (hs3.alloc (by decide) _) (bv_one _) (by simp only [maxLen]; omega) (by omega) (by simp) ?_; intro v4 w4 hown4 hg4 hat4; have B4 := ((Below.refl w3.heap.size w3).alloc (Nat.le_refl _) _).grown hg4 (by simp) (fun q e => by simp [Value.ownBlock] at e; omega); have z4 := B4.size)))
  have B5 : Below w3.heap.size w3 w5 := (B4.alloc z4 _).grown hg5 (by simp; omega) (fun q e => (hown4.lt q e).1)
  have D5 := B3.trans (B5.mono z3)
  have z5 := D5.size
  have u5 : Bytes w5 v5 (F78 ++ [9]) := own_bytes (by simpa [bv] using hown5)
  clear hown4 hown5 hg4 hg5 hat4 hat5 B4
  go_wp2_with fail
  refine (take_val (p := [7, 8]) (r := [9]) _ u5 (hT.below D5 hT0) (by omega) (by decide) (by decide) (by decide) (by decide) (by decide)).mono ?_
  rintro e w6 ⟨A6, c6, B6, d6, rfl, hp6, hr6, hb6⟩
  have D6 := D5.trans (hb6.mono z5)
  have z6 := D6.size
  have B6' : Below w3.heap.size w3 w6 := B5.trans (hb6.mono B5.size)
  clear hb6 u5 D5 B5
  go_wp2_with (at_builtin; go_must (refine wpList_app _ rfl (.tmp 33) (.tmp 34) 22 rfl w6.heap.size 5 i0 _ 1 1 Tryd.underlying22 hi0 hz0 hz1 hz2 rfl (by omega) (.slice (some ⟨w6.heap.size, 0, none⟩) 0 0) 0 [] rfl (own_empty w6 w6.heap.size 1 5 rfl) _ _ A3 8 c3 (F78.map bv) rfl ((hs3.after (by decide) B6').alloc (by decide) _) (bv_one _) (by simp only [maxLen]; omega) (by omega) (by simp) ?_; intro v7 w7 hown7 hg7 hat7; have B7 := ((Below.refl w6.heap.size w6).alloc (Nat.le_refl _) _).grown hg7 (by simp) (fun q e => by simp [Value.ownBlock] at e; omega); have z7 := B7.size; obtain ⟨g7, c7, rfl, hg70, hc7⟩ := own_form hown7 (by omega); have k7 : w7.cell? ⟨g7, 6, none⟩ = some (.int .u8 7) := (hown7.cellAt 6 (by omega)).trans rfl; have f7 := hown7.frozenAt 6; clear hg7 hat7))
  have hown8 := (hown7.stored 6 (bv 6)).1
  have u8 : Bytes (w7.setCell ⟨g7, 6, none⟩ (.int .u8 6)) (.slice (some ⟨g7, 0, none⟩) 8 c7) (F78.set 6 6) := own_bytes (by simpa [bv] using hown8)
  have D8 : Below w.heap.size w (w7.setCell ⟨g7, 6, none⟩ (.int .u8 6)) := (D6.trans (B7.mono z6)).setCell (by simp; omega) _
  have D8' : Below w6.heap.size w6 (w7.setCell ⟨g7, 6, none⟩ (.int .u8 6)) := B7.setCell (by simp; omega) _
  refine (take_sum _ u8 (hT.below D8 hT0) (Nat.lt_of_lt_of_le hT0 D8.size) (by decide) (by decide) (by decide)).mono ?_
  rintro e w9 ⟨rfl, hb9⟩
  have D9 := D8.trans (hb9.mono D8.size)
  have E9 := D8'.trans (hb9.mono D8'.size)
  have p9 := hp6.after E9
  have r9 := hr6.after E9
  clear hb9 D8 D8' u8 hown8 hown7 B7 hp6 hr6 k7 f7
  go_wp2_with fail
  refine (same_val (b := true) (p9.alloc _) (bytes_lit w9 w9.heap.size 2 [7, 8] _ _ rfl rfl rfl (by omega)) (by decide)).mono ?_
  rintro e w10 ⟨rfl, hb10⟩
  have D10 := (D9.alloc D9.size _).trans (hb10.mono (by simp; have := D9.size; omega))
  have r10 := (r9.alloc _).after hb10
  clear hb10
  go_wp2_with fail
  refine (same_val (b := true) (r10.alloc _) (bytes_lit w10 w10.heap.size 1 [9] _ _ rfl rfl rfl (by omega)) (by decide)).mono ?_
  rintro e w11 ⟨rfl, hb11⟩
  have D11 := (D10.alloc D10.size _).trans (hb11.mono (by simp; have := D10.size; omega))
  go_wp2_with fail
  go_ret
  exact ⟨rfl, D11⟩
end Go.Proofs.YtciolppoanfiaaaDoor
