/- A node's Follow; toAll; lead. -/
import Derived.Test.YtbgdepaffgeinaaElQuo
namespace Go.Proofs.Ytbgdepaffgeinaa
open Go.RowKit
def Ms.cells (m : Ms) : List Value := [.int .i64 m.kind, .int .i64 m.src, .int .i64 m.dst, .int .u64 (m.term : Int), .int .u64 (m.index : Int), .int .u64 (m.prev : Int), .int .u64 0, .bool m.ok, .slice none 0 0, .slice none 0 0]
def mcells (l : List Ms) : List Value := l.flatMap Ms.cells
theorem mcells_append (l k : List Ms) : mcells (l ++ k) = mcells l ++ mcells k := by simp [mcells]
theorem mcells_one (m : Ms) : mcells [m] = m.cells := by simp [mcells]
theorem mcells_len (l : List Ms) : (mcells l).length = l.length * 10 := by
  induction l with
  | nil => rfl
  | cons m l ih => simp only [mcells, List.flatMap_cons, List.length_append, List.length_cons] at ih ⊢; rw [ih]; simp only [Ms.cells, List.length_cons, List.length_nil]; omega
theorem mc_one (m : Ms) : ∀ u ∈ m.cells, u.oneCell' = true := by
  intro u hu
  simp only [Ms.cells, List.mem_cons, List.not_mem_nil, or_false] at hu
  rcases hu with rfl | rfl | rfl | rfl | rfl | rfl | rfl | rfl | rfl | rfl <;> rfl
theorem mcs_one (l : List Ms) : ∀ u ∈ mcells l, u.oneCell' = true := by
  intro u hu
  obtain ⟨m, -, hm⟩ := List.mem_flatMap.1 hu
  exact mc_one m u hm
theorem own_after_grown {w w1 : World} {base size n : Nat} {e : TypeId} {v : Value} {xs : List Value} {r : Option Nat} (h : w.ownsRow base e size v n xs) (hg : w.grownBy w1 r) (hr : ∀ b, v.ownBlock = some b → ¬ r = some b) : w1.ownsRow base e size v n xs :=
  own_same h fun b hb => hg.block b (h.lt b hb).2 fun e => hr b hb e.symm
theorem msg_info : (Try.prog.info? 81).map (fun i => (i.zero, i.size, i.bytes)) = some (some (.agg #[.int .i64 0, .int .i64 0, .int .i64 0, .int .u64 0, .int .u64 0, .int .u64 0, .int .u64 0, .bool false, .slice none 0 0, .slice none 0 0]), 10, 112) := by kernel_rfl
section
variable {H : Nat} {O : Nat → Prop} {b : Nat} {p : NP} {x : ND}
set_option maxRecDepth 100000 in
set_option maxHeartbeats 800000 in
theorem efollow_any (t : Nat) (l : Int) (w : World) (h : NodeP H w O b p x) :
    Calls Try.prog 37 #[.pointer (some ⟨b, 0, none⟩), .int .u64 (t : Int), .int .i64 l] w fun e w' => e = .returned (.tuple #[]) ∧ NodeP H w' O b { p with yv := .slice none 0 0 } (x.follow t l) ∧ w.grownBy w' (some b) := by
  have hB := h.blk
  have x1 : w.cell? ⟨b, 1, none⟩ = some (.int .i64 x.vote) := hB.cell 1
  have x2 : w.cell? ⟨b, 2, none⟩ = some (.int .i64 x.role) := hB.cell 2
  have x3 : w.cell? ⟨b, 3, none⟩ = some (.int .i64 x.lead) := hB.cell 3
  have x5 : w.cell? ⟨b, 5, none⟩ = some p.yv := hB.cell 5
  have x6 : w.cell? ⟨b, 6, none⟩ = some (.int .u64 (x.term : Int)) := hB.cell 6
  have f1 := hB.frozen 1
  have f2 := hB.frozen 2
  have f3 := hB.frozen 3
  have f5 := hB.frozen 5
  have f6 := hB.frozen 6
  have HH := Lib.hid h
  clear h hB
  by_cases hlt : x.term < t
  · have hlt' : (x.term : Int) < (t : Int) := by omega
    go_enter Try.func37, Try.ntmps37
    go_wp2
    go_end0
    have hb := ((((HH.out.blk.set_ 6 (.int .u64 (t : Int))).set_ 1 (.int .i64 (-1))).set_ 2 (.int .i64 0)).set_ 3 (.int .i64 l)).set_ 5 (.slice none 0 0)
    have hg := only_setCell (only_setCell (only_setCell (only_setCell (only_setCell (World.grownBy.refl w (some b)) 6 (.int .u64 (t : Int))) 1 (.int .i64 (-1))) 2 (.int .i64 0)) 3 (.int .i64 l)) 5 (.slice none 0 0)
    exact ⟨by first | rfl | trivial, HH.out.nobody hg (by simpa [NP.cells, ND.follow, hlt] using hb) rfl rfl rfl rfl rfl, hg⟩
  · have hlt' : ¬ (x.term : Int) < (t : Int) := by omega
    go_enter Try.func37, Try.ntmps37
    go_wp2
    go_end0
    have hb := ((HH.out.blk.set_ 2 (.int .i64 0)).set_ 3 (.int .i64 l)).set_ 5 (.slice none 0 0)
    have hg := only_setCell (only_setCell (only_setCell (World.grownBy.refl w (some b)) 2 (.int .i64 0)) 3 (.int .i64 l)) 5 (.slice none 0 0)
    exact ⟨by first | rfl | trivial, HH.out.nobody hg (by simpa [NP.cells, ND.follow, hlt] using hb) rfl rfl rfl rfl rfl, hg⟩
set_option maxRecDepth 100000 in
set_option maxHeartbeats 1600000 in
theorem toAll_any (k f0 d0 : Int) (t i q : Nat) (w : World) (h : NodeP H w O b p x) (hc : x.conf.length ≤ 1000) :
    Calls Try.prog 64 #[.pointer (some ⟨b, 0, none⟩), .agg #[.int .i64 k, .int .i64 f0, .int .i64 d0, .int .u64 (t : Int), .int .u64 (i : Int), .int .u64 (q : Int), .int .u64 0, .bool false, .slice none 0 0, .slice none 0 0]] w fun e w' => ∃ v, e = .returned v ∧ w'.ownsRow w.heap.size 81 10 v (x.toAll k t i q).length (mcells (x.toAll k t i q)) ∧ Below w.heap.size w w' := by
  obtain ⟨i0, hi0, hz0, hz1, hz2⟩ := info_parts msg_info
  have hO := others_any (w.alloc (.cells #[.int .i64 k, .int .i64 f0, .int .i64 d0, .int .u64 (t : Int), .int .u64 (i : Int), .int .u64 (q : Int), .int .u64 0, .bool false, .slice none 0 0, .slice none 0 0] 81)) (h.alloc _) hc
  have hol : x.others.length ≤ 1000 := Nat.le_trans (List.length_filter_le _ _) hc
  have hB := h.blk
  have x0 : w.cell? ⟨b, 0, none⟩ = some (.int .i64 x.me) := hB.cell 0
  have hlt := hB.lt
  have HX0 : Hid (∀ W, Below w.heap.size w W → W.cell? ⟨b, 0, none⟩ = some (.int .i64 x.me)) := fun W hW => cell_below hW x0
  have HT := Lib.hid (show x.toAll k t i q = x.others.map (fun d => (⟨k, x.me, d, t, i, q, false⟩ : Ms)) from rfl)
  generalize x.toAll k t i q = ta at HT ⊢
  generalize x.others = xo at HT hO hol
  generalize x.me = me at HT HX0
  have HOO := Lib.hid hO
  clear h hO hc hB x0
  go_enter Try.func64, Try.ntmps64
  go_wp2_with fail
  refine HOO.out.mono ?_
  rintro e w1 ⟨v1, rfl, hown, hb1⟩
  have hmb := (Blk.new w 81 #[.int .i64 k, .int .i64 f0, .int .i64 d0, .int .u64 (t : Int), .int .u64 (i : Int), .int .u64 (q : Int), .int .u64 0, .bool false, .slice none 0 0, .slice none 0 0]).after hb1
  simp only [alloc_size] at hown
  have D1 := below_boxed hb1
  obtain ⟨A1, c1, hv1, -⟩ := own_sl hown
  subst hv1
  have hw1 : w.heap.size < w1.heap.size := by have := hb1.size; simp only [alloc_size] at this; omega
  obtain ⟨n, hn⟩ : ∃ n, xo.length = n := ⟨_, rfl⟩
  rw [hn] at hown hol ⊢
  have HN := Lib.hid hn
  have HAP : Hid (∀ bb, (Value.slice A1 n c1).ownBlock = some bb → ¬ w1.heap.size ≤ bb) := fun bb hb h => by have := (hown.lt bb hb).2; omega
  have HOWN := Lib.hid hown
  have HMB := Lib.hid hmb
  have HD1 := Lib.hid D1
  clear hown hmb D1 hb1 hn HOO
  go_wp2
  go_loopw [5, 7, 11] (fun v _ ii wr => ∃ (j : Nat) (f d : Int), j ≤ n ∧ ii = .int .i64 j ∧ Blk wr w.heap.size 81 #[.int .i64 k, .int .i64 f, .int .i64 d, .int .u64 (t : Int), .int .u64 (i : Int), .int .u64 (q : Int), .int .u64 0, .bool false, .slice none 0 0, .slice none 0 0] ∧ wr.ownsRow w1.heap.size 81 10 v j (mcells ((xo.take j).map (fun d => (⟨k, me, d, t, i, q, false⟩ : Ms)))) ∧ wr.ownsRow (w.heap.size + 1) 3 1 (.slice A1 n c1) n (xo.map iv) ∧ Below w.heap.size w wr ∧ w1.heap.size ≤ wr.heap.size) (fun _ _ ii _ => n - (intOf ii).toNat)
  case atStart => exact ⟨0, f0, d0, Nat.zero_le _, rfl, HMB.out, World.ownsRow_nil _ _ _ _, HOWN.out, HD1.out, Nat.le_refl _⟩
  case round =>
    obtain ⟨j, f, d, hj, rfl, hmb, hrow, hoth, hbr, hws⟩ := hrel
    obtain ⟨A, c, rfl, -⟩ := own_sl hrow
    have HROW := Lib.hid hrow
    have HOTH := Lib.hid hoth
    have HBR := Lib.hid hbr
    have HMB2 := Lib.hid hmb
    by_cases hjn : j < n
    · obtain ⟨A', c', hv', hsl⟩ := own_sl hoth
      injection hv' with e1 _ e3
      subst e1 e3
      obtain ⟨ad, dd, rfl, hto, z0⟩ := hsl.int hjn
      have HTO := Lib.hid hto
      have x0 := HX0.out _ hbr
      have m0 := hmb.cell 0
      have m1 := hmb.cell 1
      have m2 := hmb.cell 2
      have m3 := hmb.cell 3
      have m4 := hmb.cell 4
      have m5 := hmb.cell 5
      have m6 := hmb.cell 6
      have m7 := hmb.cell 7
      have m8 := hmb.cell 8
      have m9 := hmb.cell 9
      have f1 := hmb.frozen 1
      have f2 := hmb.frozen 2
      simp only [List.getElem?_toArray, List.getElem?_cons_zero, List.getElem?_cons_succ] at m0 m1 m2 m3 m4 m5 m6 m7 m8 m9
      clear hmb hrow hoth hbr hsl hto
      go_wp2_with (at_builtin; refine wpList_app _ rfl (.tmp 22) (.tmp 24) 57 rfl w1.heap.size 81 i0 _ 10 112 Try.underlying57 hi0 hz0 hz1 hz2 rfl (by omega) (.slice A j c) j _ rfl (by exact own_alloc' (own_set (own_set HROW.out hw1 _ _) hw1 _ _) _) wr.heap.size (wr.heap.size + 1) (some ⟨wr.heap.size, 0, none⟩) 1 1 (Ms.cells ⟨k, me, dd, t, i, q, false⟩) rfl (by exact sl_at _ wr.heap.size 10 1 1 (List.toArray (Ms.cells ⟨k, me, dd, t, i, q, false⟩)) _ (by simp) rfl (Nat.le_refl _) (by decide)) (mc_one _) (by simp only [maxLen]; omega) (by omega) (by simp; omega) ?_; intro v4 w4 o4 g4 a4)
      go_roundw
      case rel =>
        have hne : ¬ (w.heap.size = w.heap.size + 1) := by omega
        have g4' := World.grownBy.refl w4 none
        have hm4 := ((((HMB2.out.set_ 1 (.int .i64 me)).set_ 2 (.int .i64 dd)).alloc (.cells (List.toArray (Ms.cells ⟨k, me, dd, t, i, q, false⟩)) 81)).grown g4 (fun e => by have := (HROW.out.lt _ e.symm).1; omega))
        refine ⟨j + 1, me, dd, by omega, by first | rfl | go_num, by simpa using hm4, ?_, ?_, ?_, ?_⟩
        · obtain ⟨q1, q2⟩ := List.getElem?_eq_some_iff.1 HTO.out
          rw [List.take_succ_eq_append_getElem q1, q2, List.map_append, mcells_append, List.map_cons, List.map_nil, mcells_one]
          exact o4
        · exact own_after_grown (own_alloc' (own_set (own_set HOTH.out (Nat.lt_succ_self _) _ _) (Nat.lt_succ_self _) _ _) _) g4 fun bb hb => by
            have h1 := (HOTH.out.lt bb hb).2
            intro e
            have h2 := (HROW.out.lt bb e).1
            exact HAP.out bb hb h2
        · exact ((((HBR.out.setCell (p := ⟨w.heap.size, 1, none⟩) (Nat.le_refl _) _).setCell (p := ⟨w.heap.size, 2, none⟩) (Nat.le_refl _) _).alloc (by simp; omega) _).grown g4 (by simp; omega) fun bb hb => by have := (HROW.out.lt bb hb).1; omega)
        · have := g4.size
          simp at this
          omega
      case measure => simp [intOf]; omega
    · go_wp2
      go_ret
      obtain rfl : j = n := by omega
      rw [HT.out, List.length_map, HN.out]
      refine ⟨_, rfl, ?_, HBR.out⟩
      have := own_wide HROW.out (Nat.le_of_lt hw1)
      rwa [List.take_of_length_le (by rw [HN.out]; exact Nat.le_refl _)] at this
end
end Go.Proofs.Ytbgdepaffgeinaa
