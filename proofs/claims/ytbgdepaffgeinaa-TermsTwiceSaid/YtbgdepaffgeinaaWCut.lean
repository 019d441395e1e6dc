import Derived.Test.YtbgdepaffgeinaaWFits
import Derived.Test.YtbgdepaffgeinaaEConcat
namespace Go.Proofs.Ytbgdepaffgeinaa
open Go.RowKit

set_option maxRecDepth 100000 in
theorem cut_any (base bt n c tt lo hi : Nat) (A : Option Addr) (es : List Ent) (w : World) (hs : Sl w lo hi 3 A n c (ecells es)) (hb : base < 1152921504606846976) (hn : n ≤ 1000) (h1 : base ≤ tt) (h2 : tt ≤ base + n) :
    Calls Try.prog 50 #[.agg #[.int .u64 (base : Int), .int .u64 (bt : Int), .slice A n c], .int .u64 (tt : Int)] w fun e w' => ∃ A' c', e = .returned (.tuple #[.agg #[.int .u64 (tt : Int), .int .u64 (termAt base bt es tt : Nat), .slice A' (base + n - tt) c'], .int .i64 0]) ∧ Sl w' w.heap.size w'.heap.size 3 A' (base + n - tt) c' (ecells (es.drop (tt - base))) ∧ Below w.heap.size w w' := by
  obtain ⟨i0, hi0, hz0, hz1, hz2⟩ := info_parts en_info
  have hl : es.length = n := by have := hs.len; rw [ecells_len] at this; omega
  have hcap := hs.cap
  have hmax := hs.max
  have hT := fun w' (h : Below w.heap.size w w') => term_any base bt n c tt lo _ A es w' (hs.now (by decide) |>.below h (Nat.le_refl _)) hb hn (by omega)
  have hd : decide (base ≤ tt ∧ tt ≤ base + n) = true := decide_eq_true ⟨h1, h2⟩
  rw [hd] at hT
  generalize termAt base bt es tt = T at hT ⊢
  obtain ⟨A1, hA1, hcut⟩ := cut_l 23 35 i0 3 Try.underlying23 hi0 hz1 .u64 A n c ((tt : Int) - (base : Int)) (base + n - tt) (c - (tt - base)) (by omega) (by omega) hcap (by omega) (by omega)
  have htn : ((tt : Int) - (base : Int)).toNat = tt - base := by omega
  have hsub := hs.sub (A' := A1) (k := tt - base) (m := base + n - tt) (c' := c - (tt - base)) (by omega) (by omega) (by omega) (by intro hp; rw [hA1 hp]; rw [htn])
  have hE : ((ecells es).drop ((tt - base) * 3)).take ((base + n - tt) * 3) = ecells (es.drop (tt - base)) := by
    rw [← ecells_drop, ← ecells_take, List.take_of_length_le (by simp; omega)]
  rw [hE] at hsub
  generalize es.drop (tt - base) = fs at hsub ⊢
  generalize c - (tt - base) = c1 at hsub hcut
  obtain ⟨m, hm⟩ : ∃ m, base + n - tt = m := ⟨_, rfl⟩
  rw [hm] at hsub hcut ⊢
  have hm1 : m ≤ n := by omega
  have HT := Lib.hid hT
  have HM := Lib.hid hm
  clear hT hE hA1 hl hm
  go_enter Try.func50, Try.ntmps50
  go_wp2_with fail
  refine (HT.out _ ((((Below.refl _ w).alloc (Nat.le_refl _) _).alloc (by simp) _))).mono ?_
  rintro e w1 ⟨rfl, hb1⟩
  obtain ⟨x0, x1, x2⟩ := (((Blk.new w _ _).alloc _).after hb1).c3
  have B2 := (Blk.new _ _ _).after hb1
  simp only [alloc_size] at B2
  have D1 := below_boxed (below_boxed hb1)
  go_wp2_with fail
  refine (eclone_any A1 m c1 lo _ fs w1 ((hsub.now (by decide)).below D1 (Nat.le_refl _)) (by omega)).mono ?_
  rintro e w2 ⟨v2, rfl, hown2, hb2⟩
  obtain ⟨A2, c2, rfl, hsl2⟩ := own_sl hown2
  have B3 := B2.after hb2
  obtain ⟨y0, y1, y2⟩ := B3.c3
  have z0 := B3.frozen 0
  have z1 := B3.frozen 1
  have z2 := B3.frozen 2
  have hz := hb1.size
  simp only [alloc_size] at hz
  go_wp2_with fail
  have B4 := ((B3.set_ 0 (.int .u64 (tt : Int))).set_ 1 (.int .u64 (T : Int))).set_ 2 (.slice A2 m c2)
  have D2 := D1.trans (hb2.mono D1.size)
  have D3 := ((D2.setCell (p := ⟨w.heap.size + 1, 0, none⟩) (Nat.le_succ _) (.int .u64 (tt : Int))).setCell (p := ⟨w.heap.size + 1, 1, none⟩) (Nat.le_succ _) (.int .u64 (T : Int))).setCell (p := ⟨w.heap.size + 1, 2, none⟩) (Nat.le_succ _) (.slice A2 m c2)
  obtain ⟨r0, r1, r2⟩ := B4.c3
  have hs4 := ((hsl2.setCell (p := ⟨w.heap.size + 1, 0, none⟩) (.inl (by simp; omega)) (.int .u64 (tt : Int))).setCell (p := ⟨w.heap.size + 1, 1, none⟩) (.inl (by simp; omega)) (.int .u64 (T : Int))).setCell (p := ⟨w.heap.size + 1, 2, none⟩) (.inl (by simp; omega)) (.slice A2 m c2)
  refine bodyPost_ret (v := .tuple #[.agg #[.int .u64 (tt : Int), .int .u64 (T : Int), .slice A2 m c2], .int .i64 0]) (by simp [results, Try.results50, go_sem, r0, r1, r2]) rfl ⟨A2, c2, rfl, ?_, D3⟩
  exact hs4.wide D1.size (by simp)
end Go.Proofs.Ytbgdepaffgeinaa
