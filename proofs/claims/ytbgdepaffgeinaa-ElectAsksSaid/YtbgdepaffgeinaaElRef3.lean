/- The document's Follow and Others. -/
import Derived.Test.YtbgdepaffgeinaaElRef2
import Derived.Test.YtbgdepaffgeinaaElNode
namespace Go.Proofs.Ytbgdepaffgeinaa
open Go.RowKit
theorem agr_agrees (xs ys : List Int) : agr xs ys = agrees xs ys := by
  unfold agr agrees
  simp
/-- the document's node is now as x' -/
def RTo (H : Nat) (w w' : World) (S : Nat → Prop) (g : Nat) (x' : ND) : Prop := ∃ S' q', RN H w' S' g q' x' ∧ ∀ b, S' b → S b ∨ w.heap.size ≤ b
section
variable {H : Nat} {w w1 : World} {S : Nat → Prop} {g : Nat} {q : RQ} {x : ND}
set_option maxRecDepth 100000 in
set_option maxHeartbeats 3200000 in
theorem rfollow_any (t : Nat) (l : Int) (w : World) (h : RN H w S g q x) :
    Calls Try.prog 38 #[.pointer (some ⟨g, 0, none⟩), .int .u64 (t : Int), .int .i64 l] w fun e w' => e = .returned (.tuple #[]) ∧ RTo H w w' S g (x.follow t l) ∧ Chg (GN2 g) w w' := by
  have hB := h.blk
  have x1 : w.cell? ⟨g, 1, none⟩ = some (.int .i64 x.vote) := h.c rfl
  have x2 : w.cell? ⟨g, 2, none⟩ = some (.int .i64 x.role) := h.c rfl
  have x3 : w.cell? ⟨g, 3, none⟩ = some (.int .i64 x.lead) := h.c rfl
  have x5 : w.cell? ⟨g, 5, none⟩ = some (.slice q.yA x.yes.length q.yc) := h.c rfl
  have x6 : w.cell? ⟨g, 6, none⟩ = some (.int .u64 (x.term : Int)) := h.c rfl
  have f1 := hB.frozen 1
  have f2 := hB.frozen 2
  have f3 := hB.frozen 3
  have f5 := hB.frozen 5
  have f6 := hB.frozen 6
  have HH := Lib.hid h
  clear h hB
  by_cases hlt : x.term < t
  · have hlt' : (x.term : Int) < (t : Int) := by omega
    go_enter Try.func38, Try.ntmps38
    go_wp2
    go_end0
    have hb := ((((HH.out.blk.set_ 6 (.int .u64 (t : Int))).set_ 1 (.int .i64 (-1))).set_ 2 (.int .i64 0)).set_ 3 (.int .i64 l)).set_ 5 (.slice none 0 0)
    have hg := only_setCell (only_setCell (only_setCell (only_setCell (only_setCell (World.grownBy.refl w (some g)) 6 (.int .u64 (t : Int))) 1 (.int .i64 (-1))) 2 (.int .i64 0)) 3 (.int .i64 l)) 5 (.slice none 0 0)
    have hc : Chg (GN2 g) w _ := Chg.grown hg fun k e => by cases e; exact .inl rfl
    obtain ⟨S', hR, hS⟩ := HH.out.turn hc (q' := { q with yA := none, yc := 0 }) (x' := x.follow t l) HH.out.n16 HH.out.m16 (by simpa [RQ.cells, RQ.head, ND.follow, hlt] using hb) (HH.out.kept hc HH.out.conf) (Rd.nil _ _ _ _ _) (HH.out.kept hc HH.out.es)
    exact ⟨by first | rfl | trivial, ⟨S', _, hR, hS⟩, hc⟩
  · have hlt' : ¬ (x.term : Int) < (t : Int) := by omega
    go_enter Try.func38, Try.ntmps38
    go_wp2
    go_end0
    have hb := ((HH.out.blk.set_ 2 (.int .i64 0)).set_ 3 (.int .i64 l)).set_ 5 (.slice none 0 0)
    have hg := only_setCell (only_setCell (only_setCell (World.grownBy.refl w (some g)) 2 (.int .i64 0)) 3 (.int .i64 l)) 5 (.slice none 0 0)
    have hc : Chg (GN2 g) w _ := Chg.grown hg fun k e => by cases e; exact .inl rfl
    obtain ⟨S', hR, hS⟩ := HH.out.turn hc (q' := { q with yA := none, yc := 0 }) (x' := x.follow t l) HH.out.n16 HH.out.m16 (by simpa [RQ.cells, RQ.head, ND.follow, hlt] using hb) (HH.out.kept hc HH.out.conf) (Rd.nil _ _ _ _ _) (HH.out.kept hc HH.out.es)
    exact ⟨by first | rfl | trivial, ⟨S', _, hR, hS⟩, hc⟩
end
theorem filter_take_more {xs : List Int} {k : Nat} {y : Int} (p : Int → Bool) (h : xs[k]? = some y) : (xs.take (k + 1)).filter p = (xs.take k).filter p ++ (if p y then [y] else []) := by
  obtain ⟨h1, h2⟩ := List.getElem?_eq_some_iff.1 h
  rw [List.take_add_one, h, Option.toList_some, List.filter_append, List.filter_cons]
  split <;> simp
section
variable {H : Nat} {S : Nat → Prop} {g : Nat} {q : RQ} {x : ND}
set_option maxRecDepth 100000 in
set_option maxHeartbeats 6400000 in
theorem rothers_any (w : World) (h : RN H w S g q x) (hc : x.conf.length ≤ 1000) :
    Calls Try.prog 42 #[.pointer (some ⟨g, 0, none⟩)] w fun e w' => ∃ v, e = .returned v ∧ w'.ownsRow w.heap.size 3 1 v x.others.length (x.others.map iv) ∧ Below w.heap.size w w' := by
  obtain ⟨i0, hi0, hz0, hz1, hz2⟩ := info_parts int_info
  have x0 : w.cell? ⟨g, 0, none⟩ = some (.int .i64 x.me) := h.c rfl
  have x4 : w.cell? ⟨g, 4, none⟩ = some (.slice q.cA x.conf.length q.cc) := h.c rfl
  have hlt := h.blk.lt
  have HX0 : Hid (∀ W, Below w.heap.size w W → W.cell? ⟨g, 0, none⟩ = some (.int .i64 x.me)) := fun W hW => cell_below hW x0
  have HX4 : Hid (∀ W, Below w.heap.size w W → W.cell? ⟨g, 4, none⟩ = some (.slice q.cA x.conf.length q.cc)) := fun W hW => cell_below hW x4
  have HS := Lib.hid h.conf.1
  have HXX := Lib.hid (show x.others = x.conf.filter fun i => !(i == x.me) from rfl)
  generalize x.others = xo at HXX ⊢
  obtain ⟨n, hn⟩ : ∃ n, x.conf.length = n := ⟨_, rfl⟩
  have HL := Lib.hid hn
  rw [hn] at HX4 HS hc
  generalize x.conf = xs at HS HXX HL
  generalize x.me = me at HXX HX0
  generalize q.cA = A at HX4 HS
  generalize q.cc = cc at HX4 HS
  clear h x0 x4 hn
  go_enter Try.func42, Try.ntmps42
  go_wp2
  go_loopw [3, 4] (fun v ii wr => ∃ (k : Nat) (ys : List Int), k ≤ n ∧ ii = .int .i64 k ∧ (xs.take k).filter (fun i => !(i == me)) = ys ∧ ys.length ≤ k ∧ wr.ownsRow w.heap.size 3 1 v ys.length (ys.map iv) ∧ Below w.heap.size w wr) (fun _ ii _ => n - (intOf ii).toNat)
  case atStart => exact ⟨0, [], Nat.zero_le _, rfl, rfl, Nat.le_refl _, World.ownsRow_nil _ _ _ _, Below.refl _ _⟩
  case round =>
    obtain ⟨k, ys, hk, rfl, hys, hyl, hrow, hb⟩ := hrel
    have x0 := HX0.out _ hb
    have x4 := HX4.out _ hb
    have hgl : g < wr.heap.size := by have := hb.size; omega
    have HY := Lib.hid hys
    have HR := Lib.hid hrow
    have HB := Lib.hid hb
    obtain ⟨A', c', hv, hsl⟩ := own_sl hrow
    subst hv
    obtain ⟨m, hm⟩ : ∃ m, ys.length = m := ⟨_, rfl⟩
    have HM := Lib.hid hm
    rw [hm] at HR hyl ⊢
    clear hys hrow hsl hm
    by_cases hkn : k < n
    · have hkn' : (k : Int) < (n : Int) := by omega
      obtain ⟨ad, y, rfl, hy, z0⟩ := (HS.out.after (by decide) hb).int hkn
      have HYY := Lib.hid hy
      clear hy hb
      by_cases h1 : y = me
      · have e1 : (y != me) = false := by simp [h1]
        go_wp2
        go_quiet (fail)
        go_wp2
        go_roundw
        case rel => exact ⟨k + 1, ys, by omega, by first | rfl | go_num, by rw [filter_take_more _ HYY.out, HY.out, if_neg (by simp [h1]), List.append_nil], by rw [HM.out]; omega, by rw [HM.out]; exact own_drewN HR.out _, below_drewN HB.out _⟩
        case measure => simp [intOf]; omega
      · have e1 : (y != me) = true := by simp [h1]
        go_wp2
        go_quiet (fail)
        go_wp2_with (at_builtin; refine wpList_app _ rfl (.tmp 26) (.tmp 34) 51 rfl w.heap.size 3 i0 _ 1 8 Try.underlying51 hi0 hz0 hz1 hz2 rfl (by omega) (.slice A' m c') m (ys.map iv) rfl (by exact own_alloc' (own_drewN HR.out _) _) _ _ (some ⟨wr.heap.size, 0, none⟩) 1 1 [.int .i64 y] rfl (by exact sl_one _ _ _) (by intro u hu; rw [List.mem_singleton.1 hu]; rfl) (by simp only [maxLen]; omega) (by omega) (by have := HB.out.size; simp; omega) ?_; intro v4 w4 o4 g4 a4)
        have hb4 : Below w.heap.size w w4 := ((below_drewN HB.out _).alloc (by have := HB.out.size; simp; omega) _).grown g4 (by have := HB.out.size; simp; omega) (fun b hb => (HR.out.lt b hb).1)
        go_roundw
        case rel =>
          refine ⟨k + 1, ys ++ [y], by omega, by first | rfl | go_num, by rw [filter_take_more _ HYY.out, HY.out, if_pos (by simp [h1])], by rw [List.length_append, HM.out]; simp; omega, ?_, hb4⟩
          rw [List.length_append, HM.out, List.map_append]
          exact o4
        case measure => simp [intOf]; omega
    · obtain rfl : k = n := by omega
      have hkn' : ¬ (k : Int) < (k : Int) := by omega
      clear hb
      go_wp2
      go_ret
      have hfin : xo = ys := by rw [HXX.out, ← HY.out, List.take_of_length_le (by rw [HL.out]; exact Nat.le_refl _)]
      rw [hfin, HM.out]
      exact ⟨_, rfl, HR.out, HB.out⟩
end
end Go.Proofs.Ytbgdepaffgeinaa
