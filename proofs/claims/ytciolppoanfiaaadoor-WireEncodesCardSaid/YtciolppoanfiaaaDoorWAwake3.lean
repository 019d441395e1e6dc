import Derived.Test.YtciolppoanfiaaaDoorXEnc2
import Derived.Test.YtciolppoanfiaaaDoorOwnZ
import Derived.Laws.OwnMore
namespace Go.Proofs.YtciolppoanfiaaaDoor
open Go.RowKit

def m1 : Msg := ⟨1, 0, 0, 0, 0, 0, 0, false, none, 0, [], none, 0, []⟩
def L39 : List UInt8 := 1 :: List.replicate 38 0
theorem isMsg_m1 (w : World) : IsMsg w m1 := ⟨⟨0, 0, Sl.nil_ _ _ _ _⟩, ⟨0, 0, Sl.nil_ _ _ _ _⟩, fun e he => by cases he⟩
theorem enc_m1 : m1.plain.enc = L39 := by decide
theorem check_m1 : m1.plain.check = 0 := by decide
theorem dec_bad : decC (L39.set 3 2) = 32 := by decide
set_option maxRecDepth 100000 in
theorem encode_m1 (w : World) : Calls Tryd.prog 24 #[.agg #[.int .i64 1, .int .i64 0, .int .i64 0, .int .u64 0, .int .u64 0, .int .u64 0, .int .u64 0, .bool false, .slice none 0 0, .slice none 0 0]] w fun e w' =>
    ∃ A n, e = .returned (.tuple #[.slice A 39 n, .int .i64 0]) ∧ w'.ownsRow w.heap.size 5 1 (.slice A 39 n) 39 (L39.map bv) ∧ Below w.heap.size w w' := by
  refine (encode_any m1 w (isMsg_m1 w) (c := 0) (l := L39) check_m1 (by rw [if_pos rfl]; exact enc_m1)).mono ?_
  rintro e w' ⟨A, n, rfl, _, h2, h3⟩
  exact ⟨A, n, rfl, h2, h3⟩
set_option maxRecDepth 100000 in
theorem check_zero (k t c : Nat) (w : World) (h : checkF k 0 t 0 [] = c) : Calls Tryd.prog 23 #[.agg #[.int .i64 (k : Int), .int .i64 0, .int .i64 (t : Int), .int .u64 0, .int .u64 0, .int .u64 0, .int .u64 0, .bool false, .slice none 0 0, .slice none 0 0]] w fun e w' =>
    e = .returned (.int .i64 (c : Int)) ∧ Below w.heap.size w w' := by
  subst h
  exact check_any (k : Int) 0 (t : Int) 0 0 0 0 false none 0 0 none 0 0 0 0 [] w (Sl.nil_ _ _ _ _) (by omega)
theorem own_form' {w : World} {base n : Nat} {e : TypeId} {v : Value} {xs : List Value} (h : w.ownsRow base e 1 v n xs) (hn : 0 < n) : ∃ g c, v = .slice (some ⟨g, 0, none⟩) n c ∧ base ≤ g ∧ n ≤ c := by
  obtain ⟨g, cap, hv, hb, _⟩ := h.form hn
  rcases h.2 with ⟨_, h0⟩ | ⟨g', cap', _, hv', _, _, hc, _⟩
  · omega
  · rw [hv] at hv'
    cases hv'
    exact ⟨g, cap, hv, hb, hc⟩

theorem own_one (w : World) (g : Nat) (e : TypeId) (x : Value) (hg : w.heap.size = g) : (w.alloc (.cells #[x] e)).ownsRow g e 1 (.slice (some ⟨g, 0, none⟩) 1 1) 1 [x] := by
  subst hg
  exact ⟨rfl, .inr ⟨w.heap.size, 1, #[x], rfl, Nat.le_refl _, heap_alloc_new w _, Nat.le_refl _, by decide, rfl, rfl⟩⟩
set_option maxRecDepth 100000 in
set_option maxHeartbeats 1600000 in
theorem awake3_any (w : World) :
    Calls Tryd.prog 22 #[] w fun e w' => e = .returned (.bool true) ∧ Below w.heap.size w w' := by
  obtain ⟨i0, hi0, hz0, hz1, hz2⟩ := info_parts u8_info
  go_enter Tryd.func22, Tryd.ntmps22
  go_wp2_with fail
  refine (encode_m1 _).mono ?_
  rintro e w1 ⟨A1, c1, rfl, hown1, D1⟩
  obtain ⟨l1, hi1, hs1⟩ : ∃ lo hi, Sl w1 lo hi 1 A1 39 c1 (L39.map bv) := by
    obtain ⟨A, c, e, hs⟩ := own_sl hown1
    cases e
    exact ⟨_, _, hs⟩
  have u1 := own_bytes hown1
  clear hown1
  go_wp2_with fail
  refine (check_zero 0 0 30 _ (by decide)).mono ?_
  rintro e w2 ⟨rfl, b2⟩
  go_wp2_with fail
  refine (check_zero 13 0 30 _ (by decide)).mono ?_
  rintro e w3 ⟨rfl, b3⟩
  go_wp2_with fail
  refine (check_zero 1 16 31 _ (by decide)).mono ?_
  rintro e w4 ⟨rfl, b4⟩
  have b14 := b2.trans ((b3.trans (b4.mono b3.size)).mono b2.size)
  have D4 := D1.trans (b14.mono D1.size)
  have s4 := hs1.after (by decide) b14
  have u4 := u1.after b14
  have z4 := D4.size
  clear b2 b3 b4 b14 D1 hs1 u1
  have hL : L39.length = 39 := rfl
  go_wp2_with (at_builtin; go_must (refine wpList_app _ rfl (.tmp 28) (.tmp 29) 22 rfl w4.heap.size 5 i0 _ 1 1 Tryd.underlying22 hi0 hz0 hz1 hz2 rfl (by omega) (.slice (some ⟨w4.heap.size, 0, none⟩) 0 0) 0 [] rfl (own_empty w4 w4.heap.size 1 5 rfl) _ _ A1 39 c1 (L39.map bv) rfl (s4.alloc (by decide) _) (bv_one _) (by simp only [maxLen]; omega) (by omega) (by simp) ?_; intro v7 w7 hown7 hg7 hat7; have B7 := ((Below.refl w4.heap.size w4).alloc (Nat.le_refl _) _).grown hg7 (by simp) (fun q e => by simp [Value.ownBlock] at e; omega); have z7 := B7.size; obtain ⟨g7, c7, rfl, hg70, hc7⟩ := own_form' hown7 (by omega); have k7 : w7.cell? ⟨g7, 3, none⟩ = some (.int .u8 0) := (hown7.cellAt 3 (by omega)).trans rfl; have f7 := hown7.frozenAt 3; clear hg7 hat7))
  have hown8 := (hown7.stored 3 (bv 2)).1
  have u8 : Bytes (w7.setCell ⟨g7, 3, none⟩ (.int .u8 2)) (.slice (some ⟨g7, 0, none⟩) 39 c7) (L39.set 3 2) := own_bytes (by simpa [bv] using hown8)
  have D8 : Below w.heap.size w (w7.setCell ⟨g7, 3, none⟩ (.int .u8 2)) := (D4.trans (B7.mono z4)).setCell (by simp; omega) _
  have D8' : Below w4.heap.size w4 (w7.setCell ⟨g7, 3, none⟩ (.int .u8 2)) := B7.setCell (by simp; omega) _
  have U8' := u4.after D8'
  generalize w7.setCell ⟨g7, 3, none⟩ (.int .u8 2) = w8 at u8 D8 U8' ⊢
  clear hown8 hown7 B7 k7 f7 D8' u4 s4 D4
  refine (decode_any w8 u8 (by simp; omega)).mono ?_
  rintro e w9 ⟨m, rfl, -, -, hb9⟩
  rw [dec_bad]
  have D9 := D8.trans (hb9.mono D8.size)
  have u9 := U8'.after hb9
  have z9 := D9.size
  clear hb9 D8 U8' u8
  obtain ⟨k, f, t, te, ix, pr, co, ok, dA, dc, d, eA, ec, es⟩ := m
  simp only [Msg.v, mcells]
  obtain ⟨v5, w5, hr5, hown5, hg5⟩ := run_app_zeros (P := Tryd.prog) ((w9.alloc (.cells #[.int .i64 k, .int .i64 f, .int .i64 t, .int .u64 (te : Int), .int .u64 (ix : Int), .int .u64 (pr : Int), .int .u64 (co : Int), .bool ok, .slice dA d.length dc, .slice eA es.length ec] 41)).alloc (.cells #[bv 1] 5)) (w9.heap.size + 1) 22 3 22 5 i0 (.int .u8 0) 1 .i64 Tryd.underlying22 Tryd.underlying3 hi0 hz0 hz1 hz2 rfl rfl (.slice (some ⟨w9.heap.size + 1, 0, none⟩) 1 1) 1 [bv 1]
    (own_one _ _ _ _ (by simp)) 38 (by simp only [maxLen]; omega) (by omega) (by simp)
  go_wp2_with (at_builtin; go_must (refine Lib.wpList_append_run _ rfl (.tmp 38) (.const (.int .i64 38)) 22 3 rfl _ _ rfl rfl _ _ hr5 ?_))
  have E10 : Below w9.heap.size w9 w5 := (((Below.refl w9.heap.size w9).alloc (Nat.le_refl _) _).alloc (by simp) _).grown hg5 (by simp; omega) (fun q e => by have := (own_one (w9.alloc (.cells #[.int .i64 k, .int .i64 f, .int .i64 t, .int .u64 (te : Int), .int .u64 (ix : Int), .int .u64 (pr : Int), .int .u64 (co : Int), .bool ok, .slice dA d.length dc, .slice eA es.length ec] 41)) (w9.heap.size + 1) 5 (bv 1) (by simp)).lt q e; omega)
  refine (same_val (b := true) (xs := L39) (ys := L39) (u9.after E10) (own_bytes (by simpa [bv, L39] using hown5)) (by decide)).mono ?_
  rintro e w11 ⟨rfl, hb11⟩
  have E11 := D9.trans ((E10.trans (hb11.mono E10.size)).mono z9)
  clear hb11 E10 hg5 hown5 hr5 u9
  go_wp2_with fail
  go_ret
  exact ⟨rfl, E11⟩
end Go.Proofs.YtciolppoanfiaaaDoor
