/- Comparing messages that bear no data and no entries. -/
import Derived.Test.YtbgdepaffgeinaaElCmp
import Derived.Test.YtbgdepaffgeinaaRSame
import Derived.Test.YtbgdepaffgeinaaEzGrp
namespace Go.Proofs.Ytbgdepaffgeinaa
open Go.RowKit
theorem nilB (w : World) : Bytes w (.slice none 0 0) [] := ⟨0, 0, none, 0, rfl, Sl.nil_ _ _ _ _⟩
set_option maxRecDepth 100000 in
set_option maxHeartbeats 3200000 in
theorem rsameM_any (m : Ms) (w : World) :
    Calls Try.prog 70 #[.agg m.cells.toArray, .agg m.cells.toArray] w fun e w' => e = .returned (.bool true) ∧ Below w.heap.size w w' := by
  unfold Ms.cells
  go_enter Try.func70, Try.ntmps70
  go_wp2_with fail
  have hq := same_val (u := .slice none 0 0) (v := .slice none 0 0) (xs := []) (ys := []) (w := (w.alloc (.cells m.cells.toArray 81)).alloc (.cells m.cells.toArray 81)) (b := true) (nilB _) (nilB _) (by simp)
  refine hq.mono ?_
  rintro e w1 ⟨rfl, hb1⟩
  have B0 := ((Blk.new w 81 m.cells.toArray).alloc (.cells m.cells.toArray 81)).after hb1
  have B1 := (Blk.new (w.alloc (.cells m.cells.toArray 81)) 81 m.cells.toArray).after hb1
  have z0 : w1.cell? ⟨w.heap.size, 9, none⟩ = some (.slice none 0 0) := B0.cell 9
  have z1 : w1.cell? ⟨w.heap.size + 1, 9, none⟩ = some (.slice none 0 0) := by
    have := B1.cell 9
    simp only [alloc_size] at this
    exact this
  have D : Below w.heap.size w w1 := (((Below.refl _ w).alloc (Nat.le_refl _) _).alloc (by simp) _).trans (hb1.mono (by simp; omega))
  have HD := Lib.hid D
  clear hq B0 B1 D hb1
  go_wp2_with fail
  refine (entries_any none none 0 0 0 0 0 0 0 0 [] [] w1 (Sl.nil_ _ _ _ _) (Sl.nil_ _ _ _ _) (fun e h => by cases h) (fun e h => by cases h) rfl).mono ?_
  rintro e w2 ⟨rfl, qn, rfl⟩
  go_wp2
  go_ret
  exact ⟨rfl, below_drewN HD.out _⟩
set_option maxRecDepth 100000 in
set_option maxHeartbeats 3200000 in
/-- two rows of the same messages -/
theorem rall_any (A : Option Addr) (n c lo hi : Nat) (B : Option Addr) (d lo2 hi2 : Nat) (ms : List Ms) (w : World) (hs : Sl w lo hi 10 A n c (mcells ms)) (ht : Sl w lo2 hi2 10 B n d (mcells ms)) :
    Calls Try.prog 43 #[.slice A n c, .slice B n d] w fun e w' => e = .returned (.bool true) ∧ Below w.heap.size w w' := by
  have hcap := hs.cap
  have hmax := hs.max
  have HS := Lib.hid hs
  have HT := Lib.hid ht
  clear hs ht
  go_enter Try.func43, Try.ntmps43
  go_wp2_with fail
  go_loopw [5] (fun ii wr => ∃ k : Nat, k ≤ n ∧ ii = .int .i64 k ∧ Below w.heap.size w wr) (fun ii _ => n - (intOf ii).toNat)
  case atStart => exact ⟨0, Nat.zero_le _, rfl, Below.refl _ _⟩
  case round =>
    obtain ⟨k, hk, rfl, hb⟩ := hrel
    by_cases hkn : k < n
    · have hkn' : (k : Int) < (n : Int) := by omega
      obtain ⟨ad, m, rfl, hm, z0, hz⟩ := (HS.out.after (by decide) hb).msg hkn
      obtain ⟨ad2, m2, rfl, hm2, y0, hy⟩ := (HT.out.after (by decide) hb).msg hkn
      obtain rfl : m = m2 := Option.some.inj (hm.symm.trans hm2)
      have z1 : wr.cell? ⟨(ad.add (k * 10)).block, (ad.add (k * 10)).off + 1, none⟩ = some (.int .i64 m.src) := by rw [← add_off z0]; exact hz 1 _ rfl
      have z2 : wr.cell? ⟨(ad.add (k * 10)).block, (ad.add (k * 10)).off + 2, none⟩ = some (.int .i64 m.dst) := by rw [← add_off z0]; exact hz 2 _ rfl
      have z3 : wr.cell? ⟨(ad.add (k * 10)).block, (ad.add (k * 10)).off + 3, none⟩ = some (.int .u64 (m.term : Int)) := by rw [← add_off z0]; exact hz 3 _ rfl
      have z4 : wr.cell? ⟨(ad.add (k * 10)).block, (ad.add (k * 10)).off + 4, none⟩ = some (.int .u64 (m.index : Int)) := by rw [← add_off z0]; exact hz 4 _ rfl
      have z5 : wr.cell? ⟨(ad.add (k * 10)).block, (ad.add (k * 10)).off + 5, none⟩ = some (.int .u64 (m.prev : Int)) := by rw [← add_off z0]; exact hz 5 _ rfl
      have z6 : wr.cell? ⟨(ad.add (k * 10)).block, (ad.add (k * 10)).off + 6, none⟩ = some (.int .u64 0) := by rw [← add_off z0]; exact hz 6 _ rfl
      have z7 : wr.cell? ⟨(ad.add (k * 10)).block, (ad.add (k * 10)).off + 7, none⟩ = some (.bool m.ok) := by rw [← add_off z0]; exact hz 7 _ rfl
      have z8 : wr.cell? ⟨(ad.add (k * 10)).block, (ad.add (k * 10)).off + 8, none⟩ = some (.slice none 0 0) := by rw [← add_off z0]; exact hz 8 _ rfl
      have z9 : wr.cell? ⟨(ad.add (k * 10)).block, (ad.add (k * 10)).off + 9, none⟩ = some (.slice none 0 0) := by rw [← add_off z0]; exact hz 9 _ rfl
      have y1 : wr.cell? ⟨(ad2.add (k * 10)).block, (ad2.add (k * 10)).off + 1, none⟩ = some (.int .i64 m.src) := by rw [← add_off y0]; exact hy 1 _ rfl
      have y2 : wr.cell? ⟨(ad2.add (k * 10)).block, (ad2.add (k * 10)).off + 2, none⟩ = some (.int .i64 m.dst) := by rw [← add_off y0]; exact hy 2 _ rfl
      have y3 : wr.cell? ⟨(ad2.add (k * 10)).block, (ad2.add (k * 10)).off + 3, none⟩ = some (.int .u64 (m.term : Int)) := by rw [← add_off y0]; exact hy 3 _ rfl
      have y4 : wr.cell? ⟨(ad2.add (k * 10)).block, (ad2.add (k * 10)).off + 4, none⟩ = some (.int .u64 (m.index : Int)) := by rw [← add_off y0]; exact hy 4 _ rfl
      have y5 : wr.cell? ⟨(ad2.add (k * 10)).block, (ad2.add (k * 10)).off + 5, none⟩ = some (.int .u64 (m.prev : Int)) := by rw [← add_off y0]; exact hy 5 _ rfl
      have y6 : wr.cell? ⟨(ad2.add (k * 10)).block, (ad2.add (k * 10)).off + 6, none⟩ = some (.int .u64 0) := by rw [← add_off y0]; exact hy 6 _ rfl
      have y7 : wr.cell? ⟨(ad2.add (k * 10)).block, (ad2.add (k * 10)).off + 7, none⟩ = some (.bool m.ok) := by rw [← add_off y0]; exact hy 7 _ rfl
      have y8 : wr.cell? ⟨(ad2.add (k * 10)).block, (ad2.add (k * 10)).off + 8, none⟩ = some (.slice none 0 0) := by rw [← add_off y0]; exact hy 8 _ rfl
      have y9 : wr.cell? ⟨(ad2.add (k * 10)).block, (ad2.add (k * 10)).off + 9, none⟩ = some (.slice none 0 0) := by rw [← add_off y0]; exact hy 9 _ rfl
      have HB := Lib.hid hb
      have HM : Hid (∀ W, Calls Try.prog 70 #[.agg m.cells.toArray, .agg m.cells.toArray] W fun e w' => e = .returned (.bool true) ∧ Below W.heap.size W w') := fun W => rsameM_any m W
      unfold Ms.cells at HM
      clear hb hm hm2 hz hy
      go_wp2_with fail
      go_region_with (go_at_call 70; refine (HM.out _).mono ?_; rintro e w4 ⟨rfl, hb4⟩)
      all_goals
        have D4 : Below w.heap.size w w4 := by
          first
            | exact HB.out.trans (hb4.mono HB.out.size)
            | exact (below_drewN HB.out _).trans (hb4.mono (by exact (below_drewN HB.out _).size))
        have HD4 := Lib.hid D4
        clear D4 hb4
        go_wp2
        go_roundw
        case rel => exact ⟨k + 1, by omega, by first | rfl | go_num, HD4.out⟩
        case measure => simp [intOf]; omega
    · have hkn' : ¬ (k : Int) < (n : Int) := by omega
      have HB := Lib.hid hb
      clear hb
      go_wp2
      go_ret
      exact ⟨rfl, HB.out⟩
end Go.Proofs.Ytbgdepaffgeinaa
