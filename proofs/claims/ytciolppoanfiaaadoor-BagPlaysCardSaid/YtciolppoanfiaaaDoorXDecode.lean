import Derived.Test.YtciolppoanfiaaaDoorXLoop
namespace Go.Proofs.YtciolppoanfiaaaDoor
open Go.RowKit Go.Shelf
attribute [local go_sem] Oper.semAt_some

set_option maxRecDepth 100000 in
theorem entries_fn (b : Nat) (w : World) :
    Calls Tryd.prog 79 #[.pointer (some ⟨b, 0, none⟩)] w fun e w' => e = .returned (.func (.func 88) #[] #[.pointer (some ⟨w.heap.size, 0, none⟩)]) ∧ w' = w.alloc (.cells #[.pointer (some ⟨b, 0, none⟩)] 78) := by
  go_enter Tryd.func79, Tryd.ntmps79
  go_wp2
  go_ret
  exact ⟨rfl, rfl⟩
theorem alloc_size (w : World) (o : Obj) : (w.alloc o).heap.size = w.heap.size + 1 := by simp
theorem size_setCell' (w : World) (p : Addr) (u : Value) : (w.setCell p u).heap.size = w.heap.size := by simp
theorem Rdr.far {w : World} {g lo hi : Nat} {l : List UInt8} {s : Bool} (h : Rdr w g lo hi l s) {p : Addr} (hp : p.block ≠ g) (hp2 : hi ≤ p.block) (u : Value) : Rdr (w.setCell p u) g lo hi l s := by
  obtain ⟨h1, v, h2, h3⟩ := h
  exact ⟨h1, v, h2.far (Ne.symm hp) u, h3.setCell (.inr hp2) u⟩
theorem zcells : Msg.zero.v = .agg #[.int .i64 0, .int .i64 0, .int .i64 0, .int .u64 0, .int .u64 0, .int .u64 0, .int .u64 0, .bool false, .slice none 0 0, .slice none 0 0] := rfl
theorem below_only {w0 w w' : World} {g : Nat} (h : Below w0.heap.size w0 w) (hg : w.grownBy w' (some g)) (hgg : w0.heap.size ≤ g) : Below w0.heap.size w0 w' := h.grown hg h.size (fun k e => by cases e; exact hgg)
theorem wrap_byte {n : Nat} (h : n < 256) : IntKind.i64.wrap ((n : Nat) : Int) = (n : Int) := by rw [IntKind.wrap_i64]; omega

set_option maxRecDepth 100000 in
set_option maxHeartbeats 8000000 in
theorem decode_strong {v : Value} {l : List UInt8} (w : World) (ha : Bytes w v l) (hl : l.length ≤ 100000) :
    Calls Tryd.prog 54 #[v] w fun e w' => ∃ m : Msg, e = .returned (.tuple #[m.v, .int .i64 (decC l : Nat)]) ∧ m.plain = decM l ∧ IsMsgT w' m ∧ Below w.heap.size w w' := by
  refine (callsIn_wide (n := 6)).1 ?_
  refine callsIn_of_wp_marks Tryd.func54 rfl trivial ?_ rfl
  simp only [Tryd.ntmps54, List.size_toArray, List.length_cons, List.length_nil, Nat.reduceAdd, Nat.reduceSub, Array.replicate_succ, Array.replicate_zero, List.push_toArray, List.append_toArray, List.nil_append, List.cons_append]
  refine wpIn_wide.2 ?_
  go_wp2_with fail
  refine (read_any _ (ha.alloc (.cells #[.int .i64 0, .int .i64 0, .int .i64 0, .int .u64 0, .int .u64 0, .int .u64 0, .int .u64 0, .bool false, .slice none 0 0, .slice none 0 0] 41))).mono ?_
  rintro e w1 ⟨rfl, hr1, hb1⟩
  have R1 := (Blk.new w _ _).after hb1
  have D1 := below_boxed hb1
  have hgs := hr1.lt
  simp only [alloc_size] at hr1 hgs
  clear hb1 ha
  have hgw : w.heap.size < w.heap.size + 1 := by omega
  have hs0 : (l, false).1.length ≤ 100000 := hl
  go_wp2_with fail
  obtain ⟨a0, ha0⟩ : ∃ a, rdV 1 (l, false) = a := ⟨_, rfl⟩
  obtain ⟨s1, hs1⟩ : ∃ s, rdN 1 (l, false) = s := ⟨_, rfl⟩
  have hv0 := rdV_lt1 (l, false)
  rw [ha0] at hv0
  have hw0 := wrap_byte hv0
  have hq1 := rdN_len 1 (l, false)
  rw [hs1] at hq1
  have hc := rdnum (w.heap.size + 1) 0 (w.heap.size + 1) 1 (l, false) _ hr1 (by omega) (by omega)
  rw [ha0, hs1] at hc
  have HA0 := Lib.hid ha0
  have HS1 := Lib.hid hs1
  clear ha0 hs1
  refine hc.mono ?_
  clear hc
  rintro e w2 ⟨rfl, hr2, hg2⟩
  have R2 := R1.grown hg2 (fun e => by injection e; omega)
  have D2 := below_only D1 hg2 (by omega)
  have z2 := hg2.size
  try simp only [alloc_size, size_setCell'] at z2
  clear hr1 R1 D1 hg2
  go_wp2_with fail
  obtain ⟨a1, ha1⟩ : ∃ a, rdV 1 s1 = a := ⟨_, rfl⟩
  obtain ⟨s2, hs2⟩ : ∃ s, rdN 1 s1 = s := ⟨_, rfl⟩
  have hv1 := rdV_lt1 s1
  rw [ha1] at hv1
  have hw1 := wrap_byte hv1
  have hq2 := rdN_len 1 s1
  rw [hs2] at hq2
  have hc := rdnum (w.heap.size + 1) 0 (w.heap.size + 1) 1 s1 _ hr2 (by omega) (by omega)
  rw [ha1, hs2] at hc
  have HA1 := Lib.hid ha1
  have HS2 := Lib.hid hs2
  clear ha1 hs2
  refine hc.mono ?_
  clear hc
  rintro e w3 ⟨rfl, hr3, hg3⟩
  have R3 := R2.grown hg3 (fun e => by injection e; omega)
  have D3 := below_only D2 hg3 (by omega)
  have z3 := hg3.size
  try simp only [alloc_size, size_setCell'] at z3
  clear hr2 R2 D2 hg3
  go_wp2_with fail
  obtain ⟨a2, ha2⟩ : ∃ a, rdV 1 s2 = a := ⟨_, rfl⟩
  obtain ⟨s3, hs3⟩ : ∃ s, rdN 1 s2 = s := ⟨_, rfl⟩
  have hv2 := rdV_lt1 s2
  rw [ha2] at hv2
  have hw2 := wrap_byte hv2
  have hq3 := rdN_len 1 s2
  rw [hs3] at hq3
  have hc := rdnum (w.heap.size + 1) 0 (w.heap.size + 1) 1 s2 _ hr3 (by omega) (by omega)
  rw [ha2, hs3] at hc
  have HA2 := Lib.hid ha2
  have HS3 := Lib.hid hs3
  clear ha2 hs3
  refine hc.mono ?_
  clear hc
  rintro e w4 ⟨rfl, hr4, hg4⟩
  have R4 := R3.grown hg4 (fun e => by injection e; omega)
  have D4 := below_only D3 hg4 (by omega)
  have z4 := hg4.size
  try simp only [alloc_size, size_setCell'] at z4
  clear hr3 R3 D3 hg4
  go_wp2_with fail
  obtain ⟨a3, ha3⟩ : ∃ a, rdV 1 s3 = a := ⟨_, rfl⟩
  obtain ⟨s4, hs4⟩ : ∃ s, rdN 1 s3 = s := ⟨_, rfl⟩
  have hv3 := rdV_lt1 s3
  rw [ha3] at hv3
  have hw3 := wrap_byte hv3
  have hq4 := rdN_len 1 s3
  rw [hs4] at hq4
  have hc := rdnum (w.heap.size + 1) 0 (w.heap.size + 1) 1 s3 _ (hr4.alloc (.cells #[.int .i64 (a0 : Int), .int .i64 (a1 : Int), .int .i64 (a2 : Int), .int .u64 0, .int .u64 0, .int .u64 0, .int .u64 0, .bool false, .slice none 0 0, .slice none 0 0] 41)) (by omega) (by omega)
  rw [ha3, hs4] at hc
  have HA3 := Lib.hid ha3
  have HS4 := Lib.hid hs4
  clear ha3 hs4
  refine hc.mono ?_
  clear hc
  rintro e w5 ⟨rfl, hr5, hg5⟩
  have R5 := (R4.alloc (.cells #[.int .i64 (a0 : Int), .int .i64 (a1 : Int), .int .i64 (a2 : Int), .int .u64 0, .int .u64 0, .int .u64 0, .int .u64 0, .bool false, .slice none 0 0, .slice none 0 0] 41)).grown hg5 (fun e => by injection e; omega)
  have D5 := below_only (below_alloc' D4 (.cells #[.int .i64 (a0 : Int), .int .i64 (a1 : Int), .int .i64 (a2 : Int), .int .u64 0, .int .u64 0, .int .u64 0, .int .u64 0, .bool false, .slice none 0 0, .slice none 0 0] 41) (Nat.le_refl _)) hg5 (by omega)
  have z5 := hg5.size
  try simp only [alloc_size] at z5
  have M5 : Blk w5 w4.heap.size 41 #[.int .i64 (a0 : Int), .int .i64 (a1 : Int), .int .i64 (a2 : Int), .int .u64 0, .int .u64 0, .int .u64 0, .int .u64 0, .bool false, .slice none 0 0, .slice none 0 0] := (Blk.new w4 41 #[.int .i64 (a0 : Int), .int .i64 (a1 : Int), .int .i64 (a2 : Int), .int .u64 0, .int .u64 0, .int .u64 0, .int .u64 0, .bool false, .slice none 0 0, .slice none 0 0]).grown hg5 (fun e => by injection e; omega)
  clear hr4 R4 D4 hg5
  skip
  have x7 := M5.cell 7
  have f7 := M5.frozen 7
  simp only [List.getElem?_toArray, List.getElem?_cons_zero, List.getElem?_cons_succ] at x7
  go_wp2_with fail
  obtain ⟨a4, ha4⟩ : ∃ a, rdV 8 s4 = a := ⟨_, rfl⟩
  obtain ⟨s5, hs5⟩ : ∃ s, rdN 8 s4 = s := ⟨_, rfl⟩
  have hv4 := rdV_lt8 s4
  rw [ha4] at hv4
  have hq5 := rdN_len 8 s4
  rw [hs5] at hq5
  have hc := rdnum (w.heap.size + 1) 0 (w.heap.size + 1) 8 s4 _ (hr5.far (p := ⟨w4.heap.size, 7, none⟩) (by simp; omega) (by simp; omega) (.bool ((a3 : Int) == 1))) (by omega) (by omega)
  rw [ha4, hs5] at hc
  have HA4 := Lib.hid ha4
  have HS5 := Lib.hid hs5
  clear ha4 hs5
  refine hc.mono ?_
  clear hc
  rintro e w6 ⟨rfl, hr6, hg6⟩
  have R6 := (R5.far (p := ⟨w4.heap.size, 7, none⟩) (by simp; omega) (.bool ((a3 : Int) == 1))).grown hg6 (fun e => by injection e; omega)
  have D6 := below_only (D5.setCell (p := ⟨w4.heap.size, 7, none⟩) (by simp; omega) (.bool ((a3 : Int) == 1))) hg6 (by omega)
  have z6 := hg6.size
  try simp only [size_setCell'] at z6
  have M6 : Blk w6 w4.heap.size 41 #[.int .i64 (a0 : Int), .int .i64 (a1 : Int), .int .i64 (a2 : Int), .int .u64 0, .int .u64 0, .int .u64 0, .int .u64 0, .bool ((a3 : Int) == 1), .slice none 0 0, .slice none 0 0] := (M5.set_ 7 (.bool ((a3 : Int) == 1))).grown hg6 (fun e => by injection e; omega)
  clear hr5 R5 D5 hg6 M5
  clear x7 f7
  go_wp2_with fail
  obtain ⟨a5, ha5⟩ : ∃ a, rdV 8 s5 = a := ⟨_, rfl⟩
  obtain ⟨s6, hs6⟩ : ∃ s, rdN 8 s5 = s := ⟨_, rfl⟩
  have hv5 := rdV_lt8 s5
  rw [ha5] at hv5
  have hq6 := rdN_len 8 s5
  rw [hs6] at hq6
  have hc := rdnum (w.heap.size + 1) 0 (w.heap.size + 1) 8 s5 _ hr6 (by omega) (by omega)
  rw [ha5, hs6] at hc
  have HA5 := Lib.hid ha5
  have HS6 := Lib.hid hs6
  clear ha5 hs6
  refine hc.mono ?_
  clear hc
  rintro e w7 ⟨rfl, hr7, hg7⟩
  have R7 := R6.grown hg7 (fun e => by injection e; omega)
  have D7 := below_only D6 hg7 (by omega)
  have z7 := hg7.size
  try simp only [alloc_size, size_setCell'] at z7
  have M7 : Blk w7 w4.heap.size 41 #[.int .i64 (a0 : Int), .int .i64 (a1 : Int), .int .i64 (a2 : Int), .int .u64 0, .int .u64 0, .int .u64 0, .int .u64 0, .bool ((a3 : Int) == 1), .slice none 0 0, .slice none 0 0] := M6.grown hg7 (fun e => by injection e; omega)
  clear hr6 R6 D6 hg7 M6
  skip
  go_wp2_with fail
  obtain ⟨a6, ha6⟩ : ∃ a, rdV 8 s6 = a := ⟨_, rfl⟩
  obtain ⟨s7, hs7⟩ : ∃ s, rdN 8 s6 = s := ⟨_, rfl⟩
  have hv6 := rdV_lt8 s6
  rw [ha6] at hv6
  have hq7 := rdN_len 8 s6
  rw [hs7] at hq7
  have hc := rdnum (w.heap.size + 1) 0 (w.heap.size + 1) 8 s6 _ hr7 (by omega) (by omega)
  rw [ha6, hs7] at hc
  have HA6 := Lib.hid ha6
  have HS7 := Lib.hid hs7
  clear ha6 hs7
  refine hc.mono ?_
  clear hc
  rintro e w8 ⟨rfl, hr8, hg8⟩
  have R8 := R7.grown hg8 (fun e => by injection e; omega)
  have D8 := below_only D7 hg8 (by omega)
  have z8 := hg8.size
  try simp only [alloc_size, size_setCell'] at z8
  have M8 : Blk w8 w4.heap.size 41 #[.int .i64 (a0 : Int), .int .i64 (a1 : Int), .int .i64 (a2 : Int), .int .u64 0, .int .u64 0, .int .u64 0, .int .u64 0, .bool ((a3 : Int) == 1), .slice none 0 0, .slice none 0 0] := M7.grown hg8 (fun e => by injection e; omega)
  clear hr7 R7 D7 hg8 M7
  skip
  go_wp2_with fail
  obtain ⟨a7, ha7⟩ : ∃ a, rdV 8 s7 = a := ⟨_, rfl⟩
  obtain ⟨s8, hs8⟩ : ∃ s, rdN 8 s7 = s := ⟨_, rfl⟩
  have hv7 := rdV_lt8 s7
  rw [ha7] at hv7
  have hq8 := rdN_len 8 s7
  rw [hs8] at hq8
  have hc := rdnum (w.heap.size + 1) 0 (w.heap.size + 1) 8 s7 _ hr8 (by omega) (by omega)
  rw [ha7, hs8] at hc
  have HA7 := Lib.hid ha7
  have HS8 := Lib.hid hs8
  clear ha7 hs8
  refine hc.mono ?_
  clear hc
  rintro e w9 ⟨rfl, hr9, hg9⟩
  have R9 := R8.grown hg9 (fun e => by injection e; omega)
  have D9 := below_only D8 hg9 (by omega)
  have z9 := hg9.size
  try simp only [alloc_size, size_setCell'] at z9
  have M9 : Blk w9 w4.heap.size 41 #[.int .i64 (a0 : Int), .int .i64 (a1 : Int), .int .i64 (a2 : Int), .int .u64 0, .int .u64 0, .int .u64 0, .int .u64 0, .bool ((a3 : Int) == 1), .slice none 0 0, .slice none 0 0] := M8.grown hg9 (fun e => by injection e; omega)
  clear hr8 R8 D8 hg9 M8
  skip
  have x3 := M9.cell 3
  have f3 := M9.frozen 3
  have x4 := M9.cell 4
  have f4 := M9.frozen 4
  have x5 := M9.cell 5
  have f5 := M9.frozen 5
  have x6 := M9.cell 6
  have f6 := M9.frozen 6
  simp only [List.getElem?_toArray, List.getElem?_cons_zero, List.getElem?_cons_succ] at x3 x4 x5 x6
  go_wp2_with fail
  obtain ⟨dl, hdl⟩ : ∃ a, rbV s8 = a := ⟨_, rfl⟩
  obtain ⟨s9, hs9⟩ : ∃ s, rbN s8 = s := ⟨_, rfl⟩
  have hq9 := rbN_len s8
  rw [hs9] at hq9
  have hc := rdbytes (w.heap.size + 1) 0 (w.heap.size + 1) s8 _ ((((hr9.far (p := ⟨w4.heap.size, 3, none⟩) (by simp; omega) (by simp; omega) (.int .u64 (a4 : Int))).far (p := ⟨w4.heap.size, 4, none⟩) (by simp; omega) (by simp; omega) (.int .u64 (a5 : Int))).far (p := ⟨w4.heap.size, 5, none⟩) (by simp; omega) (by simp; omega) (.int .u64 (a6 : Int))).far (p := ⟨w4.heap.size, 6, none⟩) (by simp; omega) (by simp; omega) (.int .u64 (a7 : Int))) (by omega)
  rw [hdl, hs9] at hc
  have HDL := Lib.hid hdl
  have HS9 := Lib.hid hs9
  clear hdl hs9
  refine hc.mono ?_
  clear hc
  rintro e w10 ⟨dA, dc, rfl, hown, hr10, hg10⟩
  have U1 := U8.own (e := ⟨0, 0, dA, dc, dl⟩) hown
  have U2 : U8.above ⟨0, 0, dA, dc, dl⟩ (w.heap.size + 1) := U8.above_own hown (by try simp only [size_setCell']; omega)
  clear hown
  have R10 := ((((R9.far (p := ⟨w4.heap.size, 3, none⟩) (by simp; omega) (.int .u64 (a4 : Int))).far (p := ⟨w4.heap.size, 4, none⟩) (by simp; omega) (.int .u64 (a5 : Int))).far (p := ⟨w4.heap.size, 5, none⟩) (by simp; omega) (.int .u64 (a6 : Int))).far (p := ⟨w4.heap.size, 6, none⟩) (by simp; omega) (.int .u64 (a7 : Int))).grown hg10 (fun e => by injection e; omega)
  have D10 := below_only ((((D9.setCell (p := ⟨w4.heap.size, 3, none⟩) (by simp; omega) (.int .u64 (a4 : Int))).setCell (p := ⟨w4.heap.size, 4, none⟩) (by simp; omega) (.int .u64 (a5 : Int))).setCell (p := ⟨w4.heap.size, 5, none⟩) (by simp; omega) (.int .u64 (a6 : Int))).setCell (p := ⟨w4.heap.size, 6, none⟩) (by simp; omega) (.int .u64 (a7 : Int))) hg10 (by omega)
  have z10 := hg10.size
  try simp only [size_setCell'] at z10
  have M10 : Blk w10 w4.heap.size 41 #[.int .i64 (a0 : Int), .int .i64 (a1 : Int), .int .i64 (a2 : Int), .int .u64 (a4 : Int), .int .u64 (a5 : Int), .int .u64 (a6 : Int), .int .u64 (a7 : Int), .bool ((a3 : Int) == 1), .slice none 0 0, .slice none 0 0] := ((((M9.set_ 3 (.int .u64 (a4 : Int))).set_ 4 (.int .u64 (a5 : Int))).set_ 5 (.int .u64 (a6 : Int))).set_ 6 (.int .u64 (a7 : Int))).grown hg10 (fun e => by injection e; omega)
  clear hr9 R9 D9 hg10 M9
  clear x3 f3 x4 f4 x5 f5 x6 f6
  have x8 := M10.cell 8
  have f8 := M10.frozen 8
  simp only [List.getElem?_toArray, List.getElem?_cons_zero, List.getElem?_cons_succ] at x8
  go_wp2_with fail
  refine (entries_fn (w.heap.size + 1) _).mono ?_
  rintro e w11 ⟨rfl, rfl⟩
  have hr0 := (hr10.far (p := ⟨w4.heap.size, 8, none⟩) (by simp; omega) (by simp; omega) (.slice dA dl.length dc)).alloc (.cells #[.pointer (some ⟨w.heap.size + 1, 0, none⟩)] 78)
  have R0 := (R10.far (p := ⟨w4.heap.size, 8, none⟩) (by simp; omega) (.slice dA dl.length dc)).alloc (.cells #[.pointer (some ⟨w.heap.size + 1, 0, none⟩)] 78)
  have D0 := below_alloc' (D10.setCell (p := ⟨w4.heap.size, 8, none⟩) (by simp; omega) (.slice dA dl.length dc)) (.cells #[.pointer (some ⟨w.heap.size + 1, 0, none⟩)] 78) (Nat.le_refl _)
  have M0 : Blk _ w4.heap.size 41 #[.int .i64 (a0 : Int), .int .i64 (a1 : Int), .int .i64 (a2 : Int), .int .u64 (a4 : Int), .int .u64 (a5 : Int), .int .u64 (a6 : Int), .int .u64 (a7 : Int), .bool ((a3 : Int) == 1), .slice dA dl.length dc, .slice none 0 0] := (M10.set_ 8 (.slice dA dl.length dc)).alloc (.cells #[.pointer (some ⟨w.heap.size + 1, 0, none⟩)] 78)
  have U0 := (U1.grown2 (only_setCell (World.grownBy.refl w10 (some w4.heap.size)) 8 (.slice dA dl.length dc)) (fun r e => by cases e; exact fun ad ha hn => by have := U1.notMsg M10 ad ha hn; exact this)).grown2 (only_alloc (World.grownBy.refl _ none) (.cells #[.pointer (some ⟨w.heap.size + 1, 0, none⟩)] 78)) (fun r e => by cases e)
  have F0 := Blk.new (w10.setCell ⟨w4.heap.size, 8, none⟩ (.slice dA dl.length dc)) 78 #[.pointer (some ⟨w.heap.size + 1, 0, none⟩)]
  simp only [size_setCell'] at F0
  have n0 : ((w10.setCell ⟨w4.heap.size, 8, none⟩ (.slice dA dl.length dc)).alloc (.cells #[.pointer (some ⟨w.heap.size + 1, 0, none⟩)] 78)).heap.size = w10.heap.size + 1 := by simp
  clear hr10 R10 D10 M10 U1 x8 f8
  try simp only [size_setCell']
  generalize (w10.setCell ⟨w4.heap.size, 8, none⟩ (.slice dA dl.length dc)).alloc (.cells #[.pointer (some ⟨w.heap.size + 1, 0, none⟩)] 78) = WW at hr0 R0 D0 M0 U0 F0 n0 ⊢
  go_wp2_with fail
  refine (wpIn_wide (n := 6)).1 ?_
  have hseq : SeqGoes Fence.wide 5 Tryd.prog 88 #[.pointer (some ⟨w10.heap.size, 0, none⟩)] (w.heap.size + 1) (fun x : Ent => #[x.v]) (Kw (w10.heap.size + 1) w4.heap.size) (fun xs W' => ∃ st : RdSt, Rdr W' (w.heap.size + 1) 0 (w.heap.size + 1) st.1 st.2 ∧ decE (rdV 1 s9) (rdN 1 s9) = (xs.map Ent.key, st) ∧ ∀ x ∈ xs, U8 W' x) 256 WW := fun l J W hW hJ hY h0 =>
    entries1_in 5 l (w.heap.size + 1) 0 (w.heap.size + 1) w10.heap.size (w10.heap.size + 1) w4.heap.size s9 (by omega) (by omega) (by omega) (by omega) (by omega) (by omega) (by omega) (by omega) (by omega) J W hJ (by have := hW.size; omega) hY (F0.after hW) (hr0.after hW) h0
  obtain ⟨I, hId⟩ : ∃ I : List Ent → World → Prop, I = fun pre W => (∃ A c, Blk W w4.heap.size 41 #[.int .i64 (a0 : Int), .int .i64 (a1 : Int), .int .i64 (a2 : Int), .int .u64 (a4 : Int), .int .u64 (a5 : Int), .int .u64 (a6 : Int), .int .u64 (a7 : Int), .bool ((a3 : Int) == 1), .slice dA dl.length dc, .slice A pre.length c] ∧ W.ownsRow (w10.heap.size + 1) 85 3 (.slice A pre.length c) pre.length (ecells pre)) ∧ Blk W w.heap.size 41 #[.int .i64 0, .int .i64 0, .int .i64 0, .int .u64 0, .int .u64 0, .int .u64 0, .int .u64 0, .bool false, .slice none 0 0, .slice none 0 0] ∧ U8 W ⟨0, 0, dA, dc, dl⟩ ∧ Below w.heap.size w W ∧ (w10.heap.size + 1) ≤ W.heap.size := ⟨_, rfl⟩
  have hI : ∀ s A B row, I s A → A.grownBy B row → (∀ r, row = some r → r = (w.heap.size + 1) ∨ (WW.heap.size ≤ r ∧ ∃ o : Obj, A.heap[r]? = some o ∧ o.isCells = false)) → I s B := by
    rw [hId]
    rintro pre A B row ⟨⟨A', c', hM, ho⟩, hR, hU, hB, hn⟩ hg hr
    exact ⟨⟨A', c', hM.grown hg (fun e => by rcases hr _ e.symm with h | ⟨h, _⟩ <;> omega), own_keepR ho hg (fun r e => by rcases hr r e with h | ⟨_, h⟩; exact .inl (by omega); exact .inr h)⟩, hR.grown hg (fun e => by rcases hr _ e.symm with h | ⟨h, _⟩ <;> omega), hU.grown2 hg (fun r e ad ha hn' => by rcases hr r e with h | ⟨_, o, ho1, ho2⟩; exact (by have := U2 ad ha hn'; omega); exact hU.cellsObj ho1 ho2 ad ha hn'), hB.grown hg hB.size (fun k e => by rcases hr k e with h | ⟨h, _⟩ <;> omega), Nat.le_trans hn hg.size⟩
  have HSEQ := Lib.hid hseq
  have HI := Lib.hid hI
  clear hseq hI hr0
  refine wpIn_rangeFunc_state rfl (by omega) (gf := 88) (lb := #[.pointer (some ⟨w10.heap.size, 0, none⟩)]) rfl trivial (enters_of Tryd.func88 (by kernel_rfl) rfl) (gr := (w.heap.size + 1)) (by omega) HSEQ.out Kw.trans ?hKb (fun _ => rfl) I HI.out ?h0
    (fun x a' W' => ∃ gx, a' = { tmps := #[v, undef, .pointer (some ⟨w.heap.size, 0, none⟩), .int .i64 0, .pointer (some ⟨w.heap.size + 1, 0, none⟩), .pointer (some ⟨w4.heap.size, 0, none⟩), .int .u64 (a3 : Int), .pointer (some ⟨gx, 0, none⟩), undef, v, .pointer (some ⟨w.heap.size + 1, 0, none⟩), .pointer (some ⟨w.heap.size + 1, 0, none⟩), .int .u64 (a0 : Int), .int .i64 (a0 : Int), .pointer (some ⟨w.heap.size + 1, 0, none⟩), .int .u64 (a1 : Int), .int .i64 (a1 : Int), .pointer (some ⟨w.heap.size + 1, 0, none⟩), .int .u64 (a2 : Int), .int .i64 (a2 : Int), .agg #[.int .i64 (a0 : Int), .int .i64 (a1 : Int), .int .i64 (a2 : Int), .int .u64 0, .int .u64 0, .int .u64 0, .int .u64 0, .bool false, .slice none 0 0, .slice none 0 0], .pointer (some ⟨w.heap.size + 1, 0, none⟩), .int .u64 (a3 : Int), .int .u64 (a3 : Int), .bool ((a3 : Int) == 1), .pointer (some ⟨w4.heap.size, 7, none⟩), .pointer (some ⟨w.heap.size + 1, 0, none⟩), .int .u64 (a4 : Int), .pointer (some ⟨w.heap.size + 1, 0, none⟩), .int .u64 (a5 : Int), .pointer (some ⟨w.heap.size + 1, 0, none⟩), .int .u64 (a6 : Int), .pointer (some ⟨w.heap.size + 1, 0, none⟩), .int .u64 (a7 : Int), .pointer (some ⟨w4.heap.size, 3, none⟩), .pointer (some ⟨w4.heap.size, 4, none⟩), .pointer (some ⟨w4.heap.size, 5, none⟩), .pointer (some ⟨w4.heap.size, 6, none⟩), .pointer (some ⟨w.heap.size + 1, 0, none⟩), .slice dA dl.length dc, .pointer (some ⟨w4.heap.size, 8, none⟩), .pointer (some ⟨w.heap.size + 1, 0, none⟩), .func (.func 88) #[] #[.pointer (some ⟨w10.heap.size, 0, none⟩)], x.v, undef, undef, undef, undef, undef, undef, undef, undef, undef, undef, undef, undef, undef, undef, undef, undef, undef, undef, undef, undef, undef], defers := [] } ∧ Blk W' gx 85 #[.int .u64 (x.t : Int), .int .i64 x.k, .slice x.A x.l.length x.c] ∧ (w10.heap.size + 1) ≤ gx) ?hAx ?assign ?body ?done
  case hKb =>
    intro W l o o' hl ho hc _
    exact Kw.put o' (by omega) ho hc
  case h0 =>
    rw [hId]
    exact ⟨⟨none, 0, M0, World.ownsRow_nil _ _ _ _⟩, R0, U0, D0, by omega⟩
  case hAx =>
    rintro x a' A B row ⟨gx, rfl, hb, hgx⟩ hg hr
    refine ⟨gx, rfl, hb.grown hg (fun e => ?_), hgx⟩
    rcases hr gx e.symm with h | ⟨_, o, ho1, ho2⟩
    · omega
    · unfold Blk at hb
      rw [hb] at ho1
      cases ho1
      cases ho2
  case assign =>
    intro l pre x W K hi hK
    have hi' := hi
    rw [hId] at hi'
    have hn := hi'.2.2.2.2
    clear hi'
    obtain ⟨xt, xk, xA, xc, xl⟩ := x
    simp only [Ent.v]
    have HK := Lib.hid hK
    clear hK M0 R0 U0 D0 F0
    gi_wp2
    exact HK.out _ _ (KeepsOthers.alloc _ _) (Kw.of_grown (only_alloc (World.grownBy.refl W none) _) hn (fun r e => by cases e)) (HI.out _ _ _ none hi (only_alloc (World.grownBy.refl W none) _) (fun r e => by cases e)) ⟨W.heap.size, rfl, Blk.new _ _ _, hn⟩
  case body =>
    rintro l pre x a' W hi ⟨gx, rfl, hb, hgx⟩ hlt
    rw [hId] at hi
    obtain ⟨⟨A, c, hM, ho⟩, hR, hU, hB, hn⟩ := hi
    clear M0 R0 U0 D0 F0
    obtain ⟨i0, hi0, hz0, hz1, hz2⟩ := info_parts en_info
    obtain ⟨xt, xk, xA, xc, xl⟩ := x
    simp only [Ent.v] at hb ⊢
    have x9 := hM.cell 9
    have f9 := hM.frozen 9
    obtain ⟨b0, b1, b2⟩ := hb.c3
    simp only [List.getElem?_toArray, List.getElem?_cons_zero, List.getElem?_cons_succ] at x9
    gi_wp2_with (gi_at_builtin; refine wpListIn_append_own _ rfl (.tmp 45) (.tmp 47) 39 rfl (w10.heap.size + 1) 85 i0 _ 3 40 Tryd.underlying39 hi0 hz0 hz1 hz2 rfl (by decide) (.slice A pre.length c) pre.length (ecells pre) rfl (ho.alloc _) ⟨W.heap.size, 0, none⟩ 1 1 (ecells [⟨xt, xk, xA, xc, xl⟩]) rfl rfl (lit_cells W _ _ _ _ _ rfl) (ec_one _) (by simp only [maxLen]; omega) (by omega) (by simp; omega) ?_; intro v1 w1' hown1 hg1 _; obtain ⟨A1, c1, rfl, -⟩ := own_sl hown1; have hM1 := (hM.alloc (.cells #[.int .u64 (xt : Int), .int .i64 xk, .slice xA xl.length xc] 85)).grown hg1 (own_off ho (by omega)); have y9 := hM1.cell 9; have g9 := hM1.frozen 9; simp only [List.getElem?_toArray, List.getElem?_cons_zero, List.getElem?_cons_succ] at y9)
    have hal := only_alloc (World.grownBy.refl W none) (.cells #[.int .u64 (xt : Int), .int .i64 xk, .slice xA xl.length xc] 85)
    have hsz : W.heap.size ≤ w1'.heap.size := by have := hg1.size; simp at this; omega
    have hset := only_setCell (World.grownBy.refl w1' (some w4.heap.size)) 9 (.slice A1 (pre.length + 1) c1)
    have hK1 : Kw _ _ W _ := Kw.of_grown (n₀ := (w10.heap.size + 1)) (gm := w4.heap.size) hal hn (fun r e => by cases e)
    have hK2 : Kw _ _ _ w1' := Kw.own (n₀ := (w10.heap.size + 1)) (gm := w4.heap.size) (ho.alloc _) hg1 (Nat.le_refl _) (by simp; omega)
    have hnm := hM1.not_u8m
    have hK3 : Kw _ _ w1' _ := Kw.of_grown (n₀ := (w10.heap.size + 1)) (gm := w4.heap.size) hset (by omega) (fun r e => by cases e; exact ⟨.inr rfl, hnm⟩)
    refine ⟨((KeepsOthers.alloc _ _).trans (KeepsOthers.own (ho.alloc _) hg1)).trans (KeepsOthers.setCell _ _ _), (hK1.trans hK2).trans hK3, ?_⟩
    rw [hId]
    have hU1 : U8 w1' ⟨0, 0, dA, dc, dl⟩ := (hU.keep hK1.2.2).keep hK2.2.2
    refine ⟨⟨A1, c1, ?_, ?_⟩, ?_, hU1.grown2 hset (fun r e ad ha hn' => by cases e; exact hU1.notMsg hM1 ad ha hn'), ?_, by simp; omega⟩
    · simpa using hM1.set_ 9 (.slice A1 (pre.length + 1) c1)
    · have := own_set hown1 (g := w4.heap.size) (by omega) 9 (.slice A1 (pre.length + 1) c1)
      rw [List.length_append, ecells_append]
      exact this
    · exact ((hR.alloc _).grown hg1 (own_off ho (by omega))).far (by simp; omega) _
    · exact ((hB.alloc hB.size _).grown hg1 (by simp; omega) (fun q e => by have := (ho.lt q e).1; omega)).setCell (by simp; omega) _
  case done =>
    rintro D xs W0 W hD ⟨st, hr, hdec, hu⟩ hgW ⟨o, ho1, ho2⟩ hi hK
    rw [hId] at hi
    obtain ⟨⟨A, c, hM, hrow⟩, hR, hU, hB, hn⟩ := hi
    clear M0 R0 U0 D0 F0
    have hrW := hr.grownN hgW (fun r e => by cases e; omega)
    have huW : ∀ x ∈ xs, U8 W x := fun x hx => (hu x hx).grown2 hgW (fun r e ad ha hn' => by cases e; exact (hu x hx).cellsObj ho1 ho2 ad ha hn')
    have hEV : entsV l = (xs.map Ent.key, st) := by
      unfold entsV st9 st8 st4
      rw [HS1.out, HS2.out, HS3.out, HS4.out, HS5.out, HS6.out, HS7.out, HS8.out, HS9.out]
      exact hdec
    have hFV : flagV l = a3 := by
      unfold flagV
      rw [HS1.out, HS2.out, HS3.out, HA3.out]
    have hPV : decP l = ⟨(a0 : Int), (a1 : Int), (a2 : Int), a4, a5, a6, a7, (a3 : Int) == 1, dl, xs.map Ent.key⟩ := by
      unfold decP
      rw [hEV, hFV]
      unfold st8 st4
      rw [HS1.out, HS2.out, HS3.out, HS4.out, HS5.out, HS6.out, HS7.out, HS8.out, HA0.out, HA1.out, HA2.out, HA4.out, HA5.out, HA6.out, HA7.out, HDL.out]
    have HEV := Lib.hid hEV
    have HFV := Lib.hid hFV
    have HPV := Lib.hid hPV
    have HUW := Lib.hid huW
    have hEnd := rend_any _ _ _ _ _ W hrW
    have HK := Lib.hid hK
    clear hEV hFV hPV hr hdec hu hgW ho1 ho2 hrW huW hK
    obtain ⟨E0, hE0⟩ : ∃ E, endE st.2 st.1 = E := ⟨_, rfl⟩
    have hElt := endE_lt st.2 st.1
    rw [hE0] at hEnd hElt
    have HE0 := Lib.hid hE0
    clear hE0
    have hDk : Below w.heap.size W (W.putObj D (.deferred none)) := belowK_b (w := w) (Nat.le_refl _) W D _ _ (by omega) HK.out rfl rfl
    have hCC : decC l = if E0 ≠ 0 then E0 else if 1 < a3 then 32 else checkF (a0 : Int) (a1 : Int) (a2 : Int) dl.length xs := by
      unfold decC
      rw [HEV.out, HFV.out, HPV.out, HE0.out, checkF_key]
      rfl
    have HCC := Lib.hid hCC
    clear hCC
    by_cases h0 : E0 = 0
    · subst h0
      have HEND := Lib.hid hEnd
      clear hEnd
      by_cases hfl : 1 < a3
      · have hCZ : decC l = 32 := by rw [HCC.out, if_neg (by simp), if_pos hfl]
        have HCZ := Lib.hid hCZ
        clear hCZ
        have r0 := hR.cell 0
        have e0 := hR.frozen 0
        have r1 := hR.cell 1
        have e1 := hR.frozen 1
        have r2 := hR.cell 2
        have e2 := hR.frozen 2
        have r3 := hR.cell 3
        have e3 := hR.frozen 3
        have r4 := hR.cell 4
        have e4 := hR.frozen 4
        have r5 := hR.cell 5
        have e5 := hR.frozen 5
        have r6 := hR.cell 6
        have e6 := hR.frozen 6
        have r7 := hR.cell 7
        have e7 := hR.frozen 7
        have r8 := hR.cell 8
        have e8 := hR.frozen 8
        have r9 := hR.cell 9
        have e9 := hR.frozen 9
        simp only [List.getElem?_toArray, List.getElem?_cons_zero, List.getElem?_cons_succ] at r0 r1 r2 r3 r4 r5 r6 r7 r8 r9
        go_wp2_with fail
        refine HEND.out.mono ?_
        rintro e _ ⟨rfl, rfl⟩
        go_wp2
        obtain ⟨hg, hbk, hko, hkw⟩ := msg_set hR (.int .i64 0) (.int .i64 0) (.int .i64 0) (.int .u64 0) (.int .u64 0) (.int .u64 0) (.int .u64 0) (.bool false) (.slice none 0 0) (.slice none 0 0)
        have hKf := hko.same D _ HK.out rfl
        have hbp := (World.putObj_heap_other (o := .deferred none) (show w.heap.size ≠ D by omega)).trans hbk
        obtain ⟨c0, c1, c2, c3, c4, c5, c6, c7, c8, c9⟩ := Blk.c10 hbp
        have hBf := (hB.grown hg hB.size (fun k e => by cases e; exact Nat.le_refl _)).trans (belowK_b (w := w) (Nat.le_refl _) _ D _ (.deferred none) (by omega) hKf rfl rfl)
        refine ⟨by simp, .inl ⟨_, _, rfl, run_takeDeferred hKf, ?_⟩⟩
        refine ⟨.tuple #[Msg.v Msg.zero, .int .i64 (32 : Nat)], by simp [results, Tryd.results54, go_sem, c0, c1, c2, c3, c4, c5, c6, c7, c8, c9, Msg.v, mcells, Msg.zero], Msg.zero, ?_, ?_, ?_, hBf⟩
        · rw [HCZ.out]
        · unfold decM; rw [if_neg (by rw [HCZ.out]; omega)]; rfl
        · exact isMsgT_zero _
      · have hCZ : decC l = checkF (a0 : Int) (a1 : Int) (a2 : Int) dl.length xs := by rw [HCC.out, if_neg (by simp), if_neg hfl]
        have HCZ := Lib.hid hCZ
        clear hCZ
        obtain ⟨m0, m1, m2, m3, m4, m5, m6, m7, m8, m9⟩ := Blk.c10 hM
        have hsx := (own_sl hrow)
        obtain ⟨Ax, cx, ex, hsx⟩ := hsx
        injection ex with ex1 _ ex2
        subst ex1 ex2
        have hchk := check_any (a0 : Int) (a1 : Int) (a2 : Int) a4 a5 a6 a7 ((a3 : Int) == 1) dA dl.length dc A xs.length c _ _ xs W hsx (Bytes.len63 (U8.data hU))
        obtain ⟨cc, hcc⟩ : ∃ cc, checkF (a0 : Int) (a1 : Int) (a2 : Int) dl.length xs = cc := ⟨_, rfl⟩
        rw [hcc] at hchk
        have HCC2 := Lib.hid hcc
        have HCH := Lib.hid hchk
        clear hcc hchk
        go_wp2_with fail
        refine HEND.out.mono ?_
        rintro e _ ⟨rfl, rfl⟩
        go_wp2_with fail
        refine HCH.out.mono ?_
        rintro e w20 ⟨rfl, hb20⟩
        have hR2 := hR.after hb20
        have hM2 := hM.after hb20
        have hB2 := hB.trans (hb20.mono hB.size)
        have hKK := (hb20.block D (Array.getElem?_eq_some_iff.1 HK.out).1).trans HK.out
        have HK2 := Lib.hid hKK
        clear hKK m0 m1 m2 m3 m4 m5 m6 m7 m8 m9 hsx
        have r0 := hR2.cell 0
        have e0 := hR2.frozen 0
        have r1 := hR2.cell 1
        have e1 := hR2.frozen 1
        have r2 := hR2.cell 2
        have e2 := hR2.frozen 2
        have r3 := hR2.cell 3
        have e3 := hR2.frozen 3
        have r4 := hR2.cell 4
        have e4 := hR2.frozen 4
        have r5 := hR2.cell 5
        have e5 := hR2.frozen 5
        have r6 := hR2.cell 6
        have e6 := hR2.frozen 6
        have r7 := hR2.cell 7
        have e7 := hR2.frozen 7
        have r8 := hR2.cell 8
        have e8 := hR2.frozen 8
        have r9 := hR2.cell 9
        have e9 := hR2.frozen 9
        simp only [List.getElem?_toArray, List.getElem?_cons_zero, List.getElem?_cons_succ] at r0 r1 r2 r3 r4 r5 r6 r7 r8 r9
        by_cases hc0 : cc = 0
        · subst hc0
          have hK20 := only_of_below hb20 none
          have hU2 := hU.grown2 hK20 (fun r e => by cases e)
          have huW2 : ∀ x ∈ xs, U8 w20 x := fun x hx => (HUW.out x hx).grown2 hK20 (fun r e => by cases e)
          have hrow2 := own_after hrow hb20
          have HU2 := Lib.hid huW2
          clear huW2
          obtain ⟨m0, m1, m2, m3, m4, m5, m6, m7, m8, m9⟩ := Blk.c10 hM2
          go_wp2
          obtain ⟨hg, hbk, hko, hkw⟩ := msg_set hR2 (.int .i64 (a0 : Int)) (.int .i64 (a1 : Int)) (.int .i64 (a2 : Int)) (.int .u64 (a4 : Int)) (.int .u64 (a5 : Int)) (.int .u64 (a6 : Int)) (.int .u64 (a7 : Int)) (.bool ((a3 : Int) == 1)) (.slice dA dl.length dc) (.slice A xs.length c)
          have hKf := hko.same D _ HK2.out rfl
          have hbp := (World.putObj_heap_other (o := .deferred none) (show w.heap.size ≠ D by omega)).trans hbk
          obtain ⟨c0, c1, c2, c3, c4, c5, c6, c7, c8, c9⟩ := Blk.c10 hbp
          have hBf := (hB2.grown hg hB2.size (fun k e => by cases e; exact Nat.le_refl _)).trans (belowK_b (w := w) (Nat.le_refl _) _ D _ (.deferred none) (by omega) hKf rfl rfl)
          refine ⟨by simp, .inl ⟨_, _, rfl, run_takeDeferred hKf, ?_⟩⟩
          refine ⟨.tuple #[Msg.v ⟨(a0 : Int), (a1 : Int), (a2 : Int), a4, a5, a6, a7, (a3 : Int) == 1, dA, dc, dl, A, c, xs⟩, .int .i64 (0 : Nat)], by simp [results, Tryd.results54, go_sem, c0, c1, c2, c3, c4, c5, c6, c7, c8, c9, Msg.v, mcells], ⟨(a0 : Int), (a1 : Int), (a2 : Int), a4, a5, a6, a7, (a3 : Int) == 1, dA, dc, dl, A, c, xs⟩, ?_, ?_, ?_, hBf⟩
          · rw [HCZ.out, HCC2.out]
          · unfold decM; rw [if_pos (by rw [HCZ.out, HCC2.out]), HPV.out]; rfl
          · have hpk := Kw.put (n₀ := 0) (gm := w.heap.size) (.deferred none) (Nat.zero_le _) hKf rfl
            exact isMsgT_make ((hU2.keep hkw.2.2).keep hpk.2.2) (own_keepR (own_keepR hrow2 hg (fun r e => by cases e; exact .inl (by omega))) (grownBy_putObj' _ D _) (fun r e => by cases e; exact .inr ⟨_, hKf, rfl⟩)) (fun x hx => ((HU2.out x hx).keep hkw.2.2).keep hpk.2.2)
        · have hnz : ((cc : Int) != 0) = true := by simp; omega
          have hCZ2 : decC l = cc := by rw [HCZ.out, HCC2.out]
          have HCZ := Lib.hid hCZ2
          clear hCZ2
          go_wp2
          obtain ⟨hg, hbk, hko, hkw⟩ := msg_set hR2 (.int .i64 0) (.int .i64 0) (.int .i64 0) (.int .u64 0) (.int .u64 0) (.int .u64 0) (.int .u64 0) (.bool false) (.slice none 0 0) (.slice none 0 0)
          have hKf := hko.same D _ HK2.out rfl
          have hbp := (World.putObj_heap_other (o := .deferred none) (show w.heap.size ≠ D by omega)).trans hbk
          obtain ⟨c0, c1, c2, c3, c4, c5, c6, c7, c8, c9⟩ := Blk.c10 hbp
          have hBf := (hB2.grown hg hB2.size (fun k e => by cases e; exact Nat.le_refl _)).trans (belowK_b (w := w) (Nat.le_refl _) _ D _ (.deferred none) (by omega) hKf rfl rfl)
          refine ⟨by simp, .inl ⟨_, _, rfl, run_takeDeferred hKf, ?_⟩⟩
          refine ⟨.tuple #[Msg.v Msg.zero, .int .i64 (cc : Nat)], by simp [results, Tryd.results54, go_sem, c0, c1, c2, c3, c4, c5, c6, c7, c8, c9, Msg.v, mcells, Msg.zero], Msg.zero, ?_, ?_, ?_, hBf⟩
          · rw [HCZ.out]
          · unfold decM; rw [if_neg (by rw [HCZ.out]; omega)]; rfl
          · exact isMsgT_zero _
    · have hne : ((E0 : Int) != 0) = true := by simp; omega
      have hCZ : decC l = E0 := by rw [HCC.out, if_pos h0]
      have HCZ := Lib.hid hCZ
      clear hCZ
      have HEND := Lib.hid hEnd
      clear hEnd
      have r0 := hR.cell 0
      have e0 := hR.frozen 0
      have r1 := hR.cell 1
      have e1 := hR.frozen 1
      have r2 := hR.cell 2
      have e2 := hR.frozen 2
      have r3 := hR.cell 3
      have e3 := hR.frozen 3
      have r4 := hR.cell 4
      have e4 := hR.frozen 4
      have r5 := hR.cell 5
      have e5 := hR.frozen 5
      have r6 := hR.cell 6
      have e6 := hR.frozen 6
      have r7 := hR.cell 7
      have e7 := hR.frozen 7
      have r8 := hR.cell 8
      have e8 := hR.frozen 8
      have r9 := hR.cell 9
      have e9 := hR.frozen 9
      simp only [List.getElem?_toArray, List.getElem?_cons_zero, List.getElem?_cons_succ] at r0 r1 r2 r3 r4 r5 r6 r7 r8 r9
      go_wp2_with fail
      refine HEND.out.mono ?_
      rintro e _ ⟨rfl, rfl⟩
      go_wp2
      obtain ⟨hg, hbk, hko, hkw⟩ := msg_set hR (.int .i64 0) (.int .i64 0) (.int .i64 0) (.int .u64 0) (.int .u64 0) (.int .u64 0) (.int .u64 0) (.bool false) (.slice none 0 0) (.slice none 0 0)
      have hKf := hko.same D _ HK.out rfl
      have hbp := (World.putObj_heap_other (o := .deferred none) (show w.heap.size ≠ D by omega)).trans hbk
      obtain ⟨c0, c1, c2, c3, c4, c5, c6, c7, c8, c9⟩ := Blk.c10 hbp
      have hBf := (hB.grown hg hB.size (fun k e => by cases e; exact Nat.le_refl _)).trans (belowK_b (w := w) (Nat.le_refl _) _ D _ (.deferred none) (by omega) hKf rfl rfl)
      refine ⟨by simp, .inl ⟨_, _, rfl, run_takeDeferred hKf, ?_⟩⟩
      refine ⟨.tuple #[Msg.v Msg.zero, .int .i64 (E0 : Nat)], by simp [results, Tryd.results54, go_sem, c0, c1, c2, c3, c4, c5, c6, c7, c8, c9, Msg.v, mcells, Msg.zero], Msg.zero, ?_, ?_, ?_, hBf⟩
      · rw [HCZ.out]
      · unfold decM; rw [if_neg (by rw [HCZ.out]; omega)]; rfl
      · exact isMsgT_zero _
theorem decode_any {v : Value} {l : List UInt8} (w : World) (ha : Bytes w v l) (hl : l.length ≤ 100000) :
    Calls Tryd.prog 54 #[v] w fun e w' => ∃ m : Msg, e = .returned (.tuple #[m.v, .int .i64 (decC l : Nat)]) ∧ m.plain = decM l ∧ IsMsg w' m ∧ Below w.heap.size w w' :=
  (decode_strong w ha hl).mono fun _ _ ⟨m, h1, h2, h3, h4⟩ => ⟨m, h1, h2, h3.1, h4⟩
end Go.Proofs.YtciolppoanfiaaaDoor
