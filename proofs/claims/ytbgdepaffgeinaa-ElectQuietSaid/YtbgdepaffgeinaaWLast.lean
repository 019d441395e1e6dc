import Derived.Test.YtbgdepaffgeinaaEnt
namespace Go.Proofs.Ytbgdepaffgeinaa
open Go.RowKit

set_option maxRecDepth 100000 in
theorem last_any (base n c : Nat) (bt : Int) (A : Option Addr) (w : World) (hb : base < 1152921504606846976) (hn : n ≤ 1000) :
    Calls Try.prog 15 #[.agg #[.int .u64 (base : Int), .int .u64 bt, .slice A n c]] w fun e w' => e = .returned (.int .u64 ((base : Int) + n)) ∧ Below w.heap.size w w' := by
  go_enter Try.func15, Try.ntmps15
  go_wp2
  go_ret
  exact ⟨rfl, (Below.refl _ _).alloc (Nat.le_refl _) _⟩
theorem alloc_size (w : World) (o : Obj) : (w.alloc o).heap.size = w.heap.size + 1 := by simp
theorem cell_below {w w1 : World} {p : Addr} {u : Value} (hb : Below w.heap.size w w1) (h : w.cell? p = some u) : w1.cell? p = some u := (hb.cell (World.block_lt_of_cell? w _ h)).trans h
theorem Blk.c1 {w : World} {g : Nat} {t : TypeId} {a : Value} (h : Blk w g t #[a]) : w.cell? ⟨g, 0, none⟩ = some a := h.cell 0
theorem Blk.c3 {w : World} {g : Nat} {t : TypeId} {a b c : Value} (h : Blk w g t #[a, b, c]) : w.cell? ⟨g, 0, none⟩ = some a ∧ w.cell? ⟨g, 1, none⟩ = some b ∧ w.cell? ⟨g, 2, none⟩ = some c := ⟨h.cell 0, h.cell 1, h.cell 2⟩
/-- below the first box is below -/
theorem below_boxed {w w' : World} {o : Obj} (h : Below (w.alloc o).heap.size (w.alloc o) w') : Below w.heap.size w w' :=
  ((Below.refl w.heap.size w).alloc (Nat.le_refl _) o).trans (h.mono (by simp))
set_option maxRecDepth 100000 in
theorem has_any (base n c i : Nat) (bt : Int) (A : Option Addr) (w : World) (hb : base < 1152921504606846976) (hn : n ≤ 1000) :
    Calls Try.prog 51 #[.agg #[.int .u64 (base : Int), .int .u64 bt, .slice A n c], .int .u64 (i : Int)] w fun e w' => e = .returned (.bool (decide (base < i ∧ i ≤ base + n))) ∧ Below w.heap.size w w' := by
  by_cases h : base < i
  · go_enter Try.func51, Try.ntmps51
    go_wp2_with (go_at_call 15; refine (last_any base n c bt A _ hb hn).mono ?_; rintro e w1 ⟨rfl, hb1⟩)
    go_ret
    exact ⟨congrArg (fun b => Ending.returned (Value.bool b)) (decide_eq_decide.2 ⟨fun _ => ⟨h, by omega⟩, fun _ => by omega⟩), below_boxed hb1⟩
  · go_enter Try.func51, Try.ntmps51
    go_wp2
    go_ret
    exact ⟨congrArg (fun b => Ending.returned (Value.bool b)) (decide_eq_false (by omega)).symm, (Below.refl _ _).alloc (Nat.le_refl _) _⟩
set_option maxRecDepth 100000 in
theorem entry_any (base bt n c i lo hi : Nat) (A : Option Addr) (es : List Ent) (w : World) (hs : Sl w lo hi 3 A n c (ecells es)) (hb : base < 1152921504606846976) (hn : n ≤ 1000) (hi : i < 18446744073709551616) :
    Calls Try.prog 18 #[.agg #[.int .u64 (base : Int), .int .u64 (bt : Int), .slice A n c], .int .u64 (i : Int)] w fun e w' => e = .returned (.tuple #[(entAt base es i).v, .bool (decide (base < i ∧ i ≤ base + n))]) ∧ Below w.heap.size w w' := by
  have hl : es.length = n := by have := hs.len; rw [ecells_len] at this; omega
  have hcap := hs.cap
  have hmax := hs.max
  by_cases h : base < i ∧ i ≤ base + n
  · have hd : decide (base < i ∧ i ≤ base + n) = true := decide_eq_true h
    obtain ⟨ad, e, rfl, he, hc0, hc1, hc2⟩ := hs.ent (k := i - base - 1) (by omega)
    rw [entAt_in h.1 he]
    rw [hd]
    have h1 := h.1
    go_enter Try.func18, Try.ntmps18
    go_wp2_with fail
    refine (has_any base n c i bt _ _ hb hn).mono ?_
    rintro e' w1 ⟨rfl, hb1⟩
    rw [hd]
    obtain ⟨x0, x1, x2⟩ := (((Blk.new w _ _).alloc _).after hb1).c3
    have B2 := (Blk.new _ _ _).after hb1
    simp only [alloc_size] at B2
    obtain ⟨y0, y1, y2⟩ := B2.c3
    have z0 := B2.frozen 0
    have z1 := B2.frozen 1
    have z2 := B2.frozen 2
    have D1 := below_boxed (below_boxed hb1)
    replace hc0 := cell_below D1 hc0
    replace hc1 := cell_below D1 hc1
    replace hc2 := cell_below D1 hc2
    go_wp2_with fail
    have B3 := ((B2.set_ 0 (.int .u64 (e.t : Int))).set_ 1 (.int .i64 e.k)).set_ 2 (.slice e.A e.l.length e.c)
    have D3 := ((D1.setCell (p := ⟨w.heap.size + 1, 0, none⟩) (Nat.le_succ _) (.int .u64 (e.t : Int))).setCell (p := ⟨w.heap.size + 1, 1, none⟩) (Nat.le_succ _) (.int .i64 e.k)).setCell (p := ⟨w.heap.size + 1, 2, none⟩) (Nat.le_succ _) (.slice e.A e.l.length e.c)
    obtain ⟨r0, r1, r2⟩ := B3.c3
    refine bodyPost_ret (v := .tuple #[.agg #[(.int .u64 (e.t : Int)), (.int .i64 e.k), (.slice e.A e.l.length e.c)], .bool true]) (by simp [results, Try.results18, go_sem, r0, r1, r2]) rfl ⟨rfl, D3⟩
  · have hd : decide (base < i ∧ i ≤ base + n) = false := decide_eq_false h
    rw [entAt_out (by rw [hl]; exact h), hd]
    go_enter Try.func18, Try.ntmps18
    go_wp2_with fail
    refine (has_any base n c i bt _ _ hb hn).mono ?_
    rintro e' w1 ⟨rfl, hb1⟩
    rw [hd]
    obtain ⟨x0, x1, x2⟩ := (((Blk.new w _ _).alloc _).after hb1).c3
    have B2 := (Blk.new _ _ _).after hb1
    simp only [alloc_size] at B2
    obtain ⟨y0, y1, y2⟩ := B2.c3
    have z0 := B2.frozen 0
    have z1 := B2.frozen 1
    have z2 := B2.frozen 2
    have D1 := below_boxed (below_boxed hb1)
    go_wp2_with fail
    have B3 := ((B2.set_ 0 (.int .u64 0)).set_ 1 (.int .i64 0)).set_ 2 (.slice none 0 0)
    have D3 := ((D1.setCell (p := ⟨w.heap.size + 1, 0, none⟩) (Nat.le_succ _) (.int .u64 0)).setCell (p := ⟨w.heap.size + 1, 1, none⟩) (Nat.le_succ _) (.int .i64 0)).setCell (p := ⟨w.heap.size + 1, 2, none⟩) (Nat.le_succ _) (.slice none 0 0)
    obtain ⟨r0, r1, r2⟩ := B3.c3
    refine bodyPost_ret (v := .tuple #[.agg #[(.int .u64 0), (.int .i64 0), (.slice none 0 0)], .bool false]) (by simp [results, Try.results18, go_sem, r0, r1, r2]) rfl ⟨rfl, D3⟩
set_option maxRecDepth 100000 in
theorem term_any (base bt n c i lo hi : Nat) (A : Option Addr) (es : List Ent) (w : World) (hs : Sl w lo hi 3 A n c (ecells es)) (hb : base < 1152921504606846976) (hn : n ≤ 1000) (hi : i < 18446744073709551616) :
    Calls Try.prog 16 #[.agg #[.int .u64 (base : Int), .int .u64 (bt : Int), .slice A n c], .int .u64 (i : Int)] w fun e w' => e = .returned (.tuple #[.int .u64 (termAt base bt es i : Nat), .bool (decide (base ≤ i ∧ i ≤ base + n))]) ∧ Below w.heap.size w w' := by
  by_cases h : i = base
  · subst h
    have hd : decide (i ≤ i ∧ i ≤ i + n) = true := decide_eq_true ⟨Nat.le_refl _, by omega⟩
    have ht : termAt i bt es i = bt := by simp [termAt]
    rw [hd, ht]
    go_enter Try.func16, Try.ntmps16
    go_wp2
    go_ret2
    exact ⟨rfl, (Below.refl _ _).alloc (Nat.le_refl _) _⟩
  · have hd : decide (base ≤ i ∧ i ≤ base + n) = decide (base < i ∧ i ≤ base + n) := decide_eq_decide.2 ⟨fun _ => by omega, fun _ => by omega⟩
    have ht : termAt base bt es i = (entAt base es i).t := by simp [termAt, h]
    rw [hd, ht]
    have hE := entry_any base bt n c i lo _ A es (w.alloc (.cells #[.int .u64 (base : Int), .int .u64 (bt : Int), .slice A n c] 25)) (hs.alloc (by decide) _) hb hn hi
    generalize entAt base es i = e at hE ⊢
    generalize decide (base < i ∧ i ≤ base + n) = d at hE ⊢
    have hne : ((i : Int) == (base : Int)) = false := by simp; omega
    unfold Ent.v at hE
    go_enter Try.func16, Try.ntmps16
    go_wp2_with (go_at_call 18; refine hE.mono ?_; rintro e' w1 ⟨rfl, hb1⟩)
    go_ret2
    exact ⟨rfl, (below_boxed hb1).alloc (Nat.le_of_lt (by have := hb1.size; simp at this; omega)) _⟩
end Go.Proofs.Ytbgdepaffgeinaa
