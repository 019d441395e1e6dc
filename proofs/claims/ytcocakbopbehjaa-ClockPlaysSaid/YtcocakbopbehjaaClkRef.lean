/- The document's clocks in memory; their small functions. -/
import Derived.Test.YtcocakbopbehjaaClkNew
import Derived.Test.YtcocakbopbehjaaPClockR
namespace Go.Proofs.Ytcocakbopbehjaa
open Go.RowKit
def rcells : List RT → List Value
  | [] => []
  | t :: ts => .int .i64 t.1 :: .int .i64 t.2.1 :: .int .u64 (t.2.2 : Int) :: rcells ts
theorem rcells_len (ts : List RT) : (rcells ts).length = ts.length * 3 := by
  induction ts with
  | nil => rfl
  | cons e es ih => simp only [rcells, List.length_cons, ih]; omega
theorem rcells_append (es fs : List RT) : rcells (es ++ fs) = rcells es ++ rcells fs := by
  induction es with
  | nil => rfl
  | cons e es ih => simp only [rcells, List.cons_append, ih]
theorem rcells_at (es : List RT) (k : Nat) (e : RT) (h : es[k]? = some e) : (rcells es)[k * 3]? = some (.int .i64 e.1) ∧ (rcells es)[k * 3 + 1]? = some (.int .i64 e.2.1) ∧ (rcells es)[k * 3 + 2]? = some (.int .u64 (e.2.2 : Int)) := by
  induction k generalizing es with
  | zero =>
    cases es with
    | nil => simp at h
    | cons x es =>
      simp at h
      subst h
      exact ⟨rfl, rfl, rfl⟩
  | succ k ih =>
    cases es with
    | nil => simp at h
    | cons x es =>
      have := ih es (by simpa using h)
      rw [Nat.succ_mul]
      simpa only [rcells, List.getElem?_cons_succ] using this
theorem Sl.rt {w : World} {lo hi n c k : Nat} {A : Option Addr} {es : List RT} (h : Sl w lo hi 3 A n c (rcells es)) (hk : k < n) :
    ∃ ad e, A = some ad ∧ es[k]? = some e ∧ w.cell? (ad.add (k * 3)) = some (.int .i64 e.1) ∧ w.cell? ⟨(ad.add (k * 3)).block, (ad.add (k * 3)).off + 1, none⟩ = some (.int .i64 e.2.1) ∧ w.cell? ⟨(ad.add (k * 3)).block, (ad.add (k * 3)).off + 2, none⟩ = some (.int .u64 (e.2.2 : Int)) := by
  obtain ⟨ad, e, _, _, hc⟩ := h.at_ (by omega)
  have hl : k < es.length := by have := h.len; rw [rcells_len] at this; omega
  obtain ⟨h0, h1, h2⟩ := rcells_at es k es[k] (List.getElem?_eq_getElem hl)
  have a0 := hc _ _ h0
  refine ⟨ad, es[k], e, List.getElem?_eq_getElem hl, a0, ?_, ?_⟩
  · rw [← add_off a0, add_of_add]; exact hc _ _ h1
  · rw [← add_off a0, add_of_add]; exact hc _ _ h2
theorem rt_three (a b : Int) (c : Nat) : ∀ u ∈ [Value.int .i64 a, .int .i64 b, .int .u64 (c : Int)], u.oneCell' = true := by
  intro u hu
  simp only [List.mem_cons, List.not_mem_nil, or_false] at hu
  rcases hu with rfl | rfl | rfl <;> rfl
def u64v (n : Nat) : Value := .int .u64 (n : Int)
/-- the document's clocks in block g -/
structure RS (w : World) (g : Nat) (vn vp vt : Value) (N : List Nat) (P : List Bool) (l : List RT) : Prop where
  blk : Blk w g 49 #[vn, vp, vt]
  rn : w.ownsRow 0 22 1 vn N.length (N.map u64v)
  rp : w.ownsRow 0 4 1 vp P.length (P.map Value.bool)
  rt : w.ownsRow 0 73 3 vt l.length (rcells l)
  same : N.length = P.length
  short : N.length ≤ 16
  bN : ∀ x ∈ N, x < 18446744073709551616
  bl : ∀ t ∈ l, t.2.2 < 18446744073709551616
  len : l.length ≤ 1000
def ROwn (g : Nat) (vn vp vt : Value) (k : Nat) : Prop := k = g ∨ vn.ownBlock = some k ∨ vp.ownBlock = some k ∨ vt.ownBlock = some k
section
variable {w w1 : World} {g : Nat} {vn vp vt : Value} {N : List Nat} {P : List Bool} {l : List RT}
theorem RS.keep (h : RS w g vn vp vt N P l) (hO : ∀ b, ROwn g vn vp vt b → w1.heap[b]? = w.heap[b]?) : RS w1 g vn vp vt N P l :=
  ⟨(hO g (.inl rfl)).trans h.blk, own_same h.rn fun b hb => hO b (.inr (.inl hb)), own_same h.rp fun b hb => hO b (.inr (.inr (.inl hb))), own_same h.rt fun b hb => hO b (.inr (.inr (.inr hb))), h.same, h.short, h.bN, h.bl, h.len⟩
theorem RS.top (h : RS w g vn vp vt N P l) : ∀ k, ROwn g vn vp vt k → k < w.heap.size := by
  rintro k (rfl | e | e | e)
  · exact h.blk.lt
  · exact (h.rn.lt k e).2
  · exact (h.rp.lt k e).2
  · exact (h.rt.lt k e).2
theorem RS.after (h : RS w g vn vp vt N P l) (hb : Below w.heap.size w w1) : RS w1 g vn vp vt N P l := h.keep fun b hO => hb.block b (h.top b hO)
theorem RS.drewN (h : RS w g vn vp vt N P l) (q : Nat) : RS (w.drewN q) g vn vp vt N P l := h.keep fun _ _ => rfl
theorem RS.alloc (h : RS w g vn vp vt N P l) (o : Obj) : RS (w.alloc o) g vn vp vt N P l := h.keep fun b hO => Below.heap_alloc w o b (h.top b hO)
theorem RS.other {O : Nat → Prop} (h : RS w g vn vp vt N P l) (hc : Chg O w w1) (hd : ∀ k, O k → ¬ ROwn g vn vp vt k) : RS w1 g vn vp vt N P l := h.keep fun b hO => hc.block b (h.top b hO) fun h1 => hd b h1 hO
/-- a node's number, its cell -/
theorem RS.now (h : RS w g vn vp vt N P l) {i : Nat} (hi : i < N.length) : ∃ b c x, vn = .slice (some ⟨b, 0, none⟩) N.length c ∧ N[i]? = some x ∧ w.cell? ⟨b, i, none⟩ = some (.int .u64 (x : Int)) ∧ w.frozen? ⟨b, i, none⟩ = false ∧ x < 18446744073709551616 ∧ N.length ≤ c := by
  obtain ⟨b, c, rfl, -, -⟩ := h.rn.form (by omega)
  have hcell := h.rn.cells (g := b) rfl i (u64v N[i]) (by rw [List.getElem?_map, List.getElem?_eq_getElem hi]; rfl)
  rw [addr0] at hcell
  obtain ⟨A', c', hv, hs⟩ := own_sl h.rn
  injection hv with e1 e2 e3
  subst e3
  exact ⟨b, c, N[i], rfl, List.getElem?_eq_getElem hi, hcell, (own_here h.rn).2 i, h.bN _ (List.getElem_mem hi), hs.cap⟩
theorem RS.pz (h : RS w g vn vp vt N P l) {i : Nat} (hi : i < P.length) : ∃ b c x, vp = .slice (some ⟨b, 0, none⟩) P.length c ∧ P[i]? = some x ∧ w.cell? ⟨b, i, none⟩ = some (.bool x) ∧ w.frozen? ⟨b, i, none⟩ = false ∧ P.length ≤ c := by
  obtain ⟨b, c, rfl, -, -⟩ := h.rp.form (by omega)
  have hcell := h.rp.cells (g := b) rfl i (Value.bool P[i]) (by rw [List.getElem?_map, List.getElem?_eq_getElem hi]; rfl)
  rw [addr0] at hcell
  obtain ⟨A', c', hv, hs⟩ := own_sl h.rp
  injection hv with e1 e2 e3
  subst e3
  exact ⟨b, c, P[i], rfl, List.getElem?_eq_getElem hi, hcell, (own_here h.rp).2 i, hs.cap⟩
set_option maxRecDepth 100000 in
theorem rin_any (i : Int) (w : World) (h : RS w g vn vp vt N P l) {b : Bool} (hb : decide (0 ≤ i ∧ i < (N.length : Int)) = b) :
    Calls Try.prog 32 #[.pointer (some ⟨g, 0, none⟩), .int .i64 i] w fun e w' => e = .returned (.bool b) ∧ w = w' := by
  obtain ⟨A, c, rfl, -⟩ := own_sl h.rn
  obtain ⟨x0, x1, x2⟩ := h.blk.c3
  clear h
  generalize N.length = n at x0 hb
  by_cases h0 : 0 ≤ i
  · have k0 : decide (0 ≤ i) = true := decide_eq_true h0
    have k1 : decide (i < (n : Int)) = b := by rw [← hb]; exact decide_eq_decide.2 (by omega)
    clear hb
    go_enter Try.func32, Try.ntmps32
    go_wp2
    go_ret
    exact ⟨rfl, rfl⟩
  · have k0 : decide (0 ≤ i) = false := decide_eq_false h0
    have k1 : b = false := by rw [← hb]; exact decide_eq_false (by omega)
    subst k1
    clear hb
    go_enter Try.func32, Try.ntmps32
    go_wp2
    go_ret
    exact ⟨rfl, rfl⟩
end
set_option maxRecDepth 100000 in
theorem rfits_any (a b : Nat) (w : World) (ha : a < 18446744073709551616) {r : Bool} (hr : decide (a + b < 18446744073709551616) = r) :
    Calls Try.prog 33 #[.int .u64 (a : Int), .int .u64 (b : Int)] w fun e w' => e = .returned (.bool r) ∧ w = w' := by
  obtain ⟨m, hm⟩ : ∃ m, 18446744073709551615 - a = m := ⟨_, rfl⟩
  have hw : IntKind.u64.wrap (18446744073709551615 - (a : Int)) = (m : Int) := by rw [IntKind.wrap_u64]; omega
  have hd : decide ((b : Int) ≤ (m : Int)) = r := by rw [← hr]; exact decide_eq_decide.2 (by omega)
  clear hr hm ha
  go_enter Try.func33, Try.ntmps33
  go_wp2
  go_ret
  exact ⟨by first | rfl | simp [← hd] | (rw [← hd]), rfl⟩
section
variable {w : World} {g : Nat} {vn vp vt : Value} {N : List Nat} {P : List Bool} {l : List RT}
set_option maxRecDepth 100000 in
theorem rtick_no (i a : Int) (h : RS w g vn vp vt N P l) (hi : ¬ (0 ≤ i ∧ i < (N.length : Int))) :
    Calls Try.prog 18 #[.pointer (some ⟨g, 0, none⟩), .int .i64 i, .int .u64 a] w fun e w' => e = .returned (.int .i64 31) ∧ w = w' := by
  have hC := rin_any i w h (decide_eq_false hi)
  clear h hi
  go_enter Try.func18, Try.ntmps18
  go_wp2_with fail
  refine hC.mono ?_
  rintro e _ ⟨rfl, rfl⟩
  go_wp2
  go_ret
  exact ⟨rfl, rfl⟩
set_option maxRecDepth 100000 in
theorem rtick_full (i a : Nat) (h : RS w g vn vp vt N P l) {x : Nat} (hi : N[i]? = some x) (hf : 18446744073709551616 ≤ x + a) :
    Calls Try.prog 18 #[.pointer (some ⟨g, 0, none⟩), .int .i64 (i : Int), .int .u64 (a : Int)] w fun e w' => e = .returned (.int .i64 42) ∧ w = w' := by
  have hil := (List.getElem?_eq_some_iff.1 hi).1
  have hC := rin_any (i : Int) w h (decide_eq_true (by omega))
  obtain ⟨b, c, y, rfl, hy, hcell, hfz, hyb, hnc⟩ := h.now hil
  rw [hi] at hy
  injection hy with hy
  subst hy
  obtain ⟨x0, x1, x2⟩ := h.blk.c3
  have hF := rfits_any x a w hyb (decide_eq_false (by omega : ¬ x + a < 18446744073709551616))
  have hsh := h.short
  clear h hi hf hyb
  go_enter Try.func18, Try.ntmps18
  go_wp2_with fail
  refine hC.mono ?_
  rintro e _ ⟨rfl, rfl⟩
  go_wp2_with fail
  refine hF.mono ?_
  rintro e _ ⟨rfl, rfl⟩
  go_wp2
  go_ret
  exact ⟨rfl, rfl⟩
set_option maxRecDepth 100000 in
set_option maxHeartbeats 1600000 in
theorem rtick_ok (i a : Nat) (h : RS w g vn vp vt N P l) {x : Nat} (hi : N[i]? = some x) (hf : x + a < 18446744073709551616) :
    Calls Try.prog 18 #[.pointer (some ⟨g, 0, none⟩), .int .i64 (i : Int), .int .u64 (a : Int)] w fun e w' => e = .returned (.int .i64 0) ∧ RS w' g vn vp vt (N.set i (x + a)) P l ∧ Chg (ROwn g vn vp vt) w w' := by
  have hil := (List.getElem?_eq_some_iff.1 hi).1
  have hC := rin_any (i : Int) w h (decide_eq_true (by omega))
  obtain ⟨b, c, y, rfl, hy, hcell, hfz, hyb, hnc⟩ := h.now hil
  rw [hi] at hy
  injection hy with hy
  subst hy
  obtain ⟨x0, x1, x2⟩ := h.blk.c3
  have hF := rfits_any x a w hyb (decide_eq_true hf)
  have hsh := h.short
  have hw : IntKind.u64.wrap ((x : Int) + (a : Int)) = ((x + a : Nat) : Int) := by rw [IntKind.wrap_u64]; omega
  obtain ⟨m, hm⟩ : ∃ m, x + a = m := ⟨_, rfl⟩
  rw [hm] at hw hf ⊢
  have hFIN : ∀ q, RS ((w.setCell ⟨b, i, none⟩ (.int .u64 (m : Int))).drewN q) g (.slice (some ⟨b, 0, none⟩) N.length c) vp vt (N.set i m) P l ∧ Chg (ROwn g (.slice (some ⟨b, 0, none⟩) N.length c) vp vt) w ((w.setCell ⟨b, i, none⟩ (.int .u64 (m : Int))).drewN q) := fun q => by
    have hset := only_setCell (World.grownBy.refl w (some b)) i (.int .u64 (m : Int))
    have hr := own_setCells h.rn rfl i [u64v m] (by simp; omega)
    have e1 : List.take i (N.map u64v) ++ [u64v m] ++ List.drop (i + [u64v m].length) (N.map u64v) = (N.set i m).map u64v := by
      rw [List.set_eq_take_append_cons_drop, if_pos hil, List.map_append, List.map_cons, List.map_take, List.map_drop]
      simp
    rw [e1] at hr
    refine ⟨⟨(h.blk.grown hset (fun e => row_ne h.rn h.blk (by decide) e.symm)).drewN q, ?_, own_same h.rp fun b' hb' => hset.block b' (h.rp.lt b' hb').2 (fun e => row_ne_row h.rp h.rn (by decide) b' hb' e.symm), own_same h.rt fun b' hb' => hset.block b' (h.rt.lt b' hb').2 (fun e => row_ne_row h.rt h.rn (by decide) b' hb' e.symm), by rw [List.length_set]; exact h.same, by rw [List.length_set]; exact h.short, ?_, h.bl, h.len⟩, (Chg.grown hset fun k e => .inl (.inr (.inl e))).drewN q⟩
    · rw [List.length_set]; exact hr
    · intro y hy
      rcases List.mem_or_eq_of_mem_set hy with h1 | h1
      · exact h.bN y h1
      · rw [h1]; exact hf
  have HFIN := Lib.hid hFIN
  clear h hi hf hyb hFIN hm
  go_enter Try.func18, Try.ntmps18
  go_wp2_with fail
  refine hC.mono ?_
  rintro e _ ⟨rfl, rfl⟩
  go_wp2_with fail
  refine hF.mono ?_
  rintro e _ ⟨rfl, rfl⟩
  go_wp2
  go_region
  all_goals
    go_wp2
    go_ret
    exact ⟨rfl, HFIN.out 1⟩
set_option maxRecDepth 100000 in
theorem rpause_no (i : Int) (b : Bool) (h : RS w g vn vp vt N P l) (hi : ¬ (0 ≤ i ∧ i < (N.length : Int))) :
    Calls Try.prog 22 #[.pointer (some ⟨g, 0, none⟩), .int .i64 i, .bool b] w fun e w' => e = .returned (.int .i64 31) ∧ w = w' := by
  have hC := rin_any i w h (decide_eq_false hi)
  clear h hi
  go_enter Try.func22, Try.ntmps22
  go_wp2_with fail
  refine hC.mono ?_
  rintro e _ ⟨rfl, rfl⟩
  go_wp2
  go_ret
  exact ⟨rfl, rfl⟩
set_option maxRecDepth 100000 in
set_option maxHeartbeats 1600000 in
theorem rpause_ok (i : Nat) (z : Bool) (h : RS w g vn vp vt N P l) (hil : i < N.length) :
    Calls Try.prog 22 #[.pointer (some ⟨g, 0, none⟩), .int .i64 (i : Int), .bool z] w fun e w' => e = .returned (.int .i64 0) ∧ RS w' g vn vp vt N (P.set i z) l ∧ Chg (ROwn g vn vp vt) w w' := by
  have hC := rin_any (i : Int) w h (decide_eq_true (by omega))
  have hip : i < P.length := by rw [← h.same]; exact hil
  obtain ⟨b, c, y, rfl, -, hcell, hfz, hnc⟩ := h.pz hip
  obtain ⟨x0, x1, x2⟩ := h.blk.c3
  have hsh := h.short
  have hsm := h.same
  have hFIN : RS (w.setCell ⟨b, i, none⟩ (.bool z)) g vn (.slice (some ⟨b, 0, none⟩) P.length c) vt N (P.set i z) l ∧ Chg (ROwn g vn (.slice (some ⟨b, 0, none⟩) P.length c) vt) w (w.setCell ⟨b, i, none⟩ (.bool z)) := by
    have hset := only_setCell (World.grownBy.refl w (some b)) i (.bool z)
    have hr := own_setCells h.rp rfl i [Value.bool z] (by simp; omega)
    have e1 : List.take i (P.map Value.bool) ++ [Value.bool z] ++ List.drop (i + [Value.bool z].length) (P.map Value.bool) = (P.set i z).map Value.bool := by
      rw [List.set_eq_take_append_cons_drop, if_pos hip, List.map_append, List.map_cons, List.map_take, List.map_drop]
      simp
    rw [e1] at hr
    refine ⟨⟨h.blk.grown hset (fun e => row_ne h.rp h.blk (by decide) e.symm), own_same h.rn fun b' hb' => hset.block b' (h.rn.lt b' hb').2 (fun e => row_ne_row h.rn h.rp (by decide) b' hb' e.symm), ?_, own_same h.rt fun b' hb' => hset.block b' (h.rt.lt b' hb').2 (fun e => row_ne_row h.rt h.rp (by decide) b' hb' e.symm), by rw [List.length_set]; exact h.same, h.short, h.bN, h.bl, h.len⟩, Chg.grown hset fun k e => .inl (.inr (.inr (.inl e)))⟩
    rw [List.length_set]; exact hr
  have HFIN := Lib.hid hFIN
  clear h hFIN
  go_enter Try.func22, Try.ntmps22
  go_wp2_with fail
  refine hC.mono ?_
  rintro e _ ⟨rfl, rfl⟩
  go_wp2
  go_ret
  exact ⟨rfl, HFIN.out⟩
end
end Go.Proofs.Ytcocakbopbehjaa
