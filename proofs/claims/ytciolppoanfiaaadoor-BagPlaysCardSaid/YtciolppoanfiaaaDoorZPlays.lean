import Derived.Test.YtciolppoanfiaaaDoorPKitW
import Derived.Test.YtciolppoanfiaaaDoorZMsg
import Derived.Test.YtciolppoanfiaaaDoorZOne
import Derived.Deep.Slices
import Derived.Deep.Grids
/- A slice of messages that came in. -/
namespace Go.Proofs.YtciolppoanfiaaaDoor
open Go.ChangeShapes Go.WideShapes Go.ChangeAt Go.RowKit Go.Deep
/-- v is a slice of messages that reads as ms -/
def Msgs (W : World) (v : Value) (ms : List Msg) : Prop := ∃ A c lo hi, v = .slice A ms.length c ∧ Sl W lo hi 10 A ms.length c (mscells ms) ∧ ∀ m ∈ ms, IsMsg W m ∧ m.plain.fits
set_option maxRecDepth 100000 in
theorem msg_cells {H : Type} {enc : TypeId × Value → H} {W : World} {base n : Nat} {spare : Nat → Bool} {held : Bool} {v0 v1 v2 v3 v4 v5 v6 v7 v8 v9 : Value} {y0 y1 y2 y3 y4 y5 y6 y7 y8 y9 : DataW H × List MemPlace}
    (t0 : DataW.trod enc Tryd.prog W base spare held n 3 [v0] = some y0) (t1 : DataW.trod enc Tryd.prog W base spare held n 3 [v1] = some y1) (t2 : DataW.trod enc Tryd.prog W base spare held n 3 [v2] = some y2)
    (t3 : DataW.trod enc Tryd.prog W base spare held n 38 [v3] = some y3) (t4 : DataW.trod enc Tryd.prog W base spare held n 38 [v4] = some y4) (t5 : DataW.trod enc Tryd.prog W base spare held n 38 [v5] = some y5) (t6 : DataW.trod enc Tryd.prog W base spare held n 38 [v6] = some y6)
    (t7 : DataW.trod enc Tryd.prog W base spare held n 4 [v7] = some y7) (t8 : DataW.trod enc Tryd.prog W base spare held n 22 [v8] = some y8) (t9 : DataW.trod enc Tryd.prog W base spare held n 39 [v9] = some y9) :
    ∃ m : Msg, mlist m = [v0, v1, v2, v3, v4, v5, v6, v7, v8, v9] ∧ IsMsg W m ∧ m.plain.fits := by
  obtain ⟨z0, hz0, _, hw0⟩ := DataW.trod_int Tryd.underlying3 t0
  obtain ⟨z1, hz1, _, hw1⟩ := DataW.trod_int Tryd.underlying3 t1
  obtain ⟨z2, hz2, _, hw2⟩ := DataW.trod_int Tryd.underlying3 t2
  obtain ⟨z3, hz3, _, hw3⟩ := DataW.trod_int Tryd.underlying38 t3
  obtain ⟨z4, hz4, _, hw4⟩ := DataW.trod_int Tryd.underlying38 t4
  obtain ⟨z5, hz5, _, hw5⟩ := DataW.trod_int Tryd.underlying38 t5
  obtain ⟨z6, hz6, _, hw6⟩ := DataW.trod_int Tryd.underlying38 t6
  obtain ⟨z7, hz7, _⟩ := DataW.trod_bool Tryd.underlying4 t7
  obtain ⟨l, hl⟩ := bytes_trod t8
  obtain ⟨es, A9, c9, lo9, hi9, e9', hs9, hd9, ht9⟩ := entries_trod t9
  obtain ⟨n3, b3, rfl⟩ := nat_u64 hw3
  obtain ⟨n4, b4, rfl⟩ := nat_u64 hw4
  obtain ⟨n5, b5, rfl⟩ := nat_u64 hw5
  obtain ⟨n6, b6, rfl⟩ := nat_u64 hw6
  obtain rfl : v0 = .int .i64 z0 := by simpa using hz0
  obtain rfl : v1 = .int .i64 z1 := by simpa using hz1
  obtain rfl : v2 = .int .i64 z2 := by simpa using hz2
  obtain rfl : v3 = .int .u64 n3 := by simpa using hz3
  obtain rfl : v4 = .int .u64 n4 := by simpa using hz4
  obtain rfl : v5 = .int .u64 n5 := by simpa using hz5
  obtain rfl : v6 = .int .u64 n6 := by simpa using hz6
  obtain rfl : v7 = .bool z7 := by simpa using hz7
  obtain ⟨lo8, hi8, A8, c8, rfl, hs8⟩ := hl
  subst e9'
  refine ⟨⟨z0, z1, z2, n3, n4, n5, n6, z7, A8, c8, l, A9, c9, es⟩, rfl, ⟨⟨_, _, hs8⟩, ⟨_, _, hs9⟩, hd9⟩, ⟨⟨b3, b4, b5, b6⟩, ?_⟩⟩
  intro e he
  obtain ⟨x, hx, rfl⟩ := List.mem_map.1 he
  exact ht9 x hx
set_option maxRecDepth 100000 in
theorem msgs_trod {H : Type} {enc : TypeId × Value → H} {W : World} {base fuel : Nat} {spare : Nat → Bool} {held : Bool} {v : Value} {x : DataW H × List MemPlace} (hf : DataW.trod enc Tryd.prog W base spare held fuel 65 [v] = some x) : ∃ ms, Msgs W v ms := by
  rcases open_slice_fields Tryd.underlying65 Tryd.underlying41 (by kernel_rfl) (by kernel_rfl) hf with ⟨hcs, _⟩ | ⟨a, len, cap, m, hcs, hl, hm, hmm, hi⟩
  · obtain rfl : v = .slice none 0 0 := by simpa using hcs
    exact ⟨[], none, 0, 0, 0, rfl, Sl.nil_ _ _ _ _, fun e he => by simp at he⟩
  · obtain rfl : v = .slice (some a) len cap := by simpa using hcs
    have hlm : len ≤ m := by rw [hmm]; split <;> omega
    have hex : ∀ k, k ≤ len → ∃ ms : List Msg, ms.length = k ∧ (∀ j u, (mscells ms)[j]? = some u → W.cell? (a.add j) = some u) ∧ ∀ m ∈ ms, IsMsg W m ∧ m.plain.fits := by
      intro k
      induction k with
      | zero => exact fun _ => ⟨[], rfl, fun j u h => by simp [mscells] at h, fun e he => by simp at he⟩
      | succ k ih =>
        intro hk
        obtain ⟨ms, h1, h2, h3⟩ := ih (by omega)
        obtain ⟨n, hn⟩ := hi k (by omega)
        obtain ⟨v0, y0, c0, t0⟩ := hn 0 _ rfl
        obtain ⟨v1, y1, c1, t1⟩ := hn 1 _ rfl
        obtain ⟨v2, y2, c2, t2⟩ := hn 2 _ rfl
        obtain ⟨v3, y3, c3, t3⟩ := hn 3 _ rfl
        obtain ⟨v4, y4, c4, t4⟩ := hn 4 _ rfl
        obtain ⟨v5, y5, c5, t5⟩ := hn 5 _ rfl
        obtain ⟨v6, y6, c6, t6⟩ := hn 6 _ rfl
        obtain ⟨v7, y7, c7, t7⟩ := hn 7 _ rfl
        obtain ⟨v8, y8, c8, t8⟩ := hn 8 _ rfl
        obtain ⟨v9, y9, c9, t9⟩ := hn 9 _ rfl
        obtain ⟨e, he, hd, hb⟩ := msg_cells t0 t1 t2 t3 t4 t5 t6 t7 t8 t9
        refine ⟨ms ++ [e], by simp [h1], fun j u hu => ?_, fun e' he' => ?_⟩
        · rw [mscells_append, mscells_one', he] at hu
          have hlen : (mscells ms).length = k * 10 := by rw [mscells_len, h1]
          by_cases hj : j < k * 10
          · rw [List.getElem?_append_left (by omega)] at hu
            exact h2 j u hu
          · rw [List.getElem?_append_right (by omega), hlen] at hu
            obtain ⟨i, rfl⟩ : ∃ i, j = k * 10 + i := ⟨j - k * 10, by omega⟩
            rw [Nat.add_sub_cancel_left] at hu
            match i, hu with
            | 0, hu => simp at hu; subst hu; exact c0
            | 1, hu => simp at hu; subst hu; exact c1
            | 2, hu => simp at hu; subst hu; exact c2
            | 3, hu => simp at hu; subst hu; exact c3
            | 4, hu => simp at hu; subst hu; exact c4
            | 5, hu => simp at hu; subst hu; exact c5
            | 6, hu => simp at hu; subst hu; exact c6
            | 7, hu => simp at hu; subst hu; exact c7
            | 8, hu => simp at hu; subst hu; exact c8
            | 9, hu => simp at hu; subst hu; exact c9
            | i + 10, hu => simp at hu
        · rcases List.mem_append.1 he' with h | h
          · exact h3 e' h
          · rw [List.mem_singleton.1 h]; exact ⟨hd, hb⟩
    obtain ⟨ms, h1, h2, h3⟩ := hex len (Nat.le_refl _)
    subst h1
    refine ⟨ms, some a, cap, 0, a.block + 1, rfl, ⟨mscells_len ms, hl, by simpa [maxLen] using hm, fun _ => ⟨a, rfl, Nat.zero_le _, Nat.lt_succ_self _, h2⟩⟩, h3⟩
set_option maxRecDepth 100000 in
theorem open_msgs {H : Type} {enc : TypeId × Value → H} {W : World} {base : Nat} {v : Value} {d : DataW H} {p : List MemPlace} (hv : Value.okWide Tryd.prog W .any base 65 v)
    (h : DataW.Trod enc Tryd.prog W 0 (fun _ => true) true 65 v d p) : ∃ ms, Msgs W v ms := by
  obtain ⟨a0, n, c, rfl⟩ := okWide_slice Tryd.underlying65 hv
  obtain ⟨fuel, hf⟩ := h
  exact msgs_trod (by simpa [Value.cells] using hf)
end Go.Proofs.YtciolppoanfiaaaDoor

/- A slice of bag operations that came in (written by gen_pkitb.py). -/
namespace Go.Proofs.YtciolppoanfiaaaDoor
open Go.ChangeShapes Go.WideShapes Go.ChangeAt Go.RowKit Go.Deep
/-- v is a slice of operations that reads as os -/
def BOps (W : World) (v : Value) (os : List BOp) : Prop := ∃ A c lo hi, v = .slice A os.length c ∧ Sl W lo hi 13 A os.length c (opscells os) ∧ ∀ o ∈ os, o.In W
theorem list13 {cs : List Value} (h : cs.length = 13) : ∃ v0 v1 v2 v3 v4 v5 v6 v7 v8 v9 v10 v11 v12, cs = [v0, v1, v2, v3, v4, v5, v6, v7, v8, v9, v10, v11, v12] := by
  match cs, h with
  | [v0, v1, v2, v3, v4, v5, v6, v7, v8, v9, v10, v11, v12], _ => exact ⟨v0, v1, v2, v3, v4, v5, v6, v7, v8, v9, v10, v11, v12, rfl⟩
theorem some_of {α : Type} {l : List α} {n j : Nat} (h : l.length = n) (hj : j < n) : ∃ y, l[j]? = some y := ⟨l[j]'(by omega), List.getElem?_eq_getElem (by omega)⟩
set_option maxRecDepth 100000 in
theorem bop_trod {H : Type} {enc : TypeId × Value → H} {W : World} {base n : Nat} {spare : Nat → Bool} {held : Bool} {cs : List Value} {x : DataW H × List MemPlace} (hx : DataW.trod enc Tryd.prog W base spare held n 63 cs = some x) :
    ∃ o : BOp, o.cells = cs ∧ o.In W := by
  obtain ⟨ys, n1, -, -, hlen, hyl, hf⟩ := DataW.trod_struct Tryd.underlying63 hx
  have hl : cs.length = 13 := hlen.trans (by kernel_rfl)
  obtain ⟨v0, v1, v2, v3, v4, v5, v6, v7, v8, v9, v10, v11, v12, rfl⟩ := list13 hl
  have cI : Tryd.prog.cellsOf 3 = 1 := by kernel_rfl
  have cU : Tryd.prog.cellsOf 38 = 1 := by kernel_rfl
  have cB : Tryd.prog.cellsOf 4 = 1 := by kernel_rfl
  have cD : Tryd.prog.cellsOf 22 = 1 := by kernel_rfl
  have cE : Tryd.prog.cellsOf 39 = 1 := by kernel_rfl
  have cM : Tryd.prog.cellsOf 41 = 10 := by kernel_rfl
  have hy4 : ys.length = 4 := hyl
  obtain ⟨y0, e0⟩ := some_of hy4 (j := 0) (by decide)
  have t0 : DataW.trod enc Tryd.prog W base spare held n1 3 (([v0, v1, v2, v3, v4, v5, v6, v7, v8, v9, v10, v11, v12].drop 0).take (Tryd.prog.cellsOf 3)) = ys[0]? := hf 0 _ rfl
  rw [cI, e0] at t0
  have t0 : DataW.trod enc Tryd.prog W base spare held n1 3 [v0] = some y0 := t0
  obtain ⟨y1, e1⟩ := some_of hy4 (j := 1) (by decide)
  have t1 : DataW.trod enc Tryd.prog W base spare held n1 3 (([v0, v1, v2, v3, v4, v5, v6, v7, v8, v9, v10, v11, v12].drop 1).take (Tryd.prog.cellsOf 3)) = ys[1]? := hf 1 _ rfl
  rw [cI, e1] at t1
  have t1 : DataW.trod enc Tryd.prog W base spare held n1 3 [v1] = some y1 := t1
  obtain ⟨y2, e2⟩ := some_of hy4 (j := 2) (by decide)
  have t2 : DataW.trod enc Tryd.prog W base spare held n1 3 (([v0, v1, v2, v3, v4, v5, v6, v7, v8, v9, v10, v11, v12].drop 2).take (Tryd.prog.cellsOf 3)) = ys[2]? := hf 2 _ rfl
  rw [cI, e2] at t2
  have t2 : DataW.trod enc Tryd.prog W base spare held n1 3 [v2] = some y2 := t2
  obtain ⟨y3, e3⟩ := some_of hy4 (j := 3) (by decide)
  have t3 : DataW.trod enc Tryd.prog W base spare held n1 41 (([v0, v1, v2, v3, v4, v5, v6, v7, v8, v9, v10, v11, v12].drop 3).take (Tryd.prog.cellsOf 41)) = ys[3]? := hf 3 _ rfl
  rw [cM, e3] at t3
  have t3 : DataW.trod enc Tryd.prog W base spare held n1 41 [v3, v4, v5, v6, v7, v8, v9, v10, v11, v12] = some y3 := t3
  clear hf
  obtain ⟨zs, n2, -, -, -, hzl, hg⟩ := DataW.trod_struct Tryd.underlying41 t3
  have hz10 : zs.length = 10 := hzl
  obtain ⟨z0, d0⟩ := some_of hz10 (j := 0) (by decide)
  have s0 : DataW.trod enc Tryd.prog W base spare held n2 3 (([v3, v4, v5, v6, v7, v8, v9, v10, v11, v12].drop 0).take (Tryd.prog.cellsOf 3)) = zs[0]? := hg 0 _ rfl
  rw [cI, d0] at s0
  have s0 : DataW.trod enc Tryd.prog W base spare held n2 3 [v3] = some z0 := s0
  obtain ⟨z1, d1⟩ := some_of hz10 (j := 1) (by decide)
  have s1 : DataW.trod enc Tryd.prog W base spare held n2 3 (([v3, v4, v5, v6, v7, v8, v9, v10, v11, v12].drop 1).take (Tryd.prog.cellsOf 3)) = zs[1]? := hg 1 _ rfl
  rw [cI, d1] at s1
  have s1 : DataW.trod enc Tryd.prog W base spare held n2 3 [v4] = some z1 := s1
  obtain ⟨z2, d2⟩ := some_of hz10 (j := 2) (by decide)
  have s2 : DataW.trod enc Tryd.prog W base spare held n2 3 (([v3, v4, v5, v6, v7, v8, v9, v10, v11, v12].drop 2).take (Tryd.prog.cellsOf 3)) = zs[2]? := hg 2 _ rfl
  rw [cI, d2] at s2
  have s2 : DataW.trod enc Tryd.prog W base spare held n2 3 [v5] = some z2 := s2
  obtain ⟨z3, d3⟩ := some_of hz10 (j := 3) (by decide)
  have s3 : DataW.trod enc Tryd.prog W base spare held n2 38 (([v3, v4, v5, v6, v7, v8, v9, v10, v11, v12].drop 3).take (Tryd.prog.cellsOf 38)) = zs[3]? := hg 3 _ rfl
  rw [cU, d3] at s3
  have s3 : DataW.trod enc Tryd.prog W base spare held n2 38 [v6] = some z3 := s3
  obtain ⟨z4, d4⟩ := some_of hz10 (j := 4) (by decide)
  have s4 : DataW.trod enc Tryd.prog W base spare held n2 38 (([v3, v4, v5, v6, v7, v8, v9, v10, v11, v12].drop 4).take (Tryd.prog.cellsOf 38)) = zs[4]? := hg 4 _ rfl
  rw [cU, d4] at s4
  have s4 : DataW.trod enc Tryd.prog W base spare held n2 38 [v7] = some z4 := s4
  obtain ⟨z5, d5⟩ := some_of hz10 (j := 5) (by decide)
  have s5 : DataW.trod enc Tryd.prog W base spare held n2 38 (([v3, v4, v5, v6, v7, v8, v9, v10, v11, v12].drop 5).take (Tryd.prog.cellsOf 38)) = zs[5]? := hg 5 _ rfl
  rw [cU, d5] at s5
  have s5 : DataW.trod enc Tryd.prog W base spare held n2 38 [v8] = some z5 := s5
  obtain ⟨z6, d6⟩ := some_of hz10 (j := 6) (by decide)
  have s6 : DataW.trod enc Tryd.prog W base spare held n2 38 (([v3, v4, v5, v6, v7, v8, v9, v10, v11, v12].drop 6).take (Tryd.prog.cellsOf 38)) = zs[6]? := hg 6 _ rfl
  rw [cU, d6] at s6
  have s6 : DataW.trod enc Tryd.prog W base spare held n2 38 [v9] = some z6 := s6
  obtain ⟨z7, d7⟩ := some_of hz10 (j := 7) (by decide)
  have s7 : DataW.trod enc Tryd.prog W base spare held n2 4 (([v3, v4, v5, v6, v7, v8, v9, v10, v11, v12].drop 7).take (Tryd.prog.cellsOf 4)) = zs[7]? := hg 7 _ rfl
  rw [cB, d7] at s7
  have s7 : DataW.trod enc Tryd.prog W base spare held n2 4 [v10] = some z7 := s7
  obtain ⟨z8, d8⟩ := some_of hz10 (j := 8) (by decide)
  have s8 : DataW.trod enc Tryd.prog W base spare held n2 22 (([v3, v4, v5, v6, v7, v8, v9, v10, v11, v12].drop 8).take (Tryd.prog.cellsOf 22)) = zs[8]? := hg 8 _ rfl
  rw [cD, d8] at s8
  have s8 : DataW.trod enc Tryd.prog W base spare held n2 22 [v11] = some z8 := s8
  obtain ⟨z9, d9⟩ := some_of hz10 (j := 9) (by decide)
  have s9 : DataW.trod enc Tryd.prog W base spare held n2 39 (([v3, v4, v5, v6, v7, v8, v9, v10, v11, v12].drop 9).take (Tryd.prog.cellsOf 39)) = zs[9]? := hg 9 _ rfl
  rw [cE, d9] at s9
  have s9 : DataW.trod enc Tryd.prog W base spare held n2 39 [v12] = some z9 := s9
  clear hg
  obtain ⟨m, hm, him, hfi⟩ := msg_cells s0 s1 s2 s3 s4 s5 s6 s7 s8 s9
  obtain ⟨x0, hx0, _, hw0⟩ := DataW.trod_int Tryd.underlying3 t0
  obtain ⟨x1, hx1, _, hw1⟩ := DataW.trod_int Tryd.underlying3 t1
  obtain ⟨x2, hx2, _, hw2⟩ := DataW.trod_int Tryd.underlying3 t2
  obtain rfl : v0 = .int .i64 x0 := by simpa using hx0
  obtain rfl : v1 = .int .i64 x1 := by simpa using hx1
  obtain rfl : v2 = .int .i64 x2 := by simpa using hx2
  refine ⟨⟨x0, x1, x2, m⟩, ?_, him, hfi, bounds_i64 hw1, bounds_i64 hw2⟩
  show Value.int .i64 x0 :: Value.int .i64 x1 :: Value.int .i64 x2 :: mlist m = _
  rw [hm]
set_option maxRecDepth 100000 in
theorem open_bops {H : Type} {enc : TypeId × Value → H} {W : World} {base : Nat} {v : Value} {d : DataW H} {p : List MemPlace} (hv : Value.okWide Tryd.prog W .any base 56 v)
    (h : DataW.Trod enc Tryd.prog W 0 (fun _ => true) true 56 v d p) : ∃ os, BOps W v os := by
  obtain ⟨a0, n0, c0, rfl⟩ := okWide_slice Tryd.underlying56 hv
  obtain ⟨fuel, hf⟩ := h
  have hf' : DataW.trod enc Tryd.prog W 0 (fun _ => true) true fuel 56 [.slice a0 n0 c0] = some (d, p) := by simpa [Value.cells] using hf
  have cO : Tryd.prog.cellsOf 63 = 13 := by kernel_rfl
  rcases open_slice Tryd.underlying56 hf' with ⟨hcs, _⟩ | ⟨a, len, cap, m, n, D, Pl, hcs, _, hl, hm, hmm, _, hi⟩
  · simp at hcs
    obtain ⟨rfl, rfl, rfl⟩ := hcs
    exact ⟨[], none, 0, 0, 0, rfl, Sl.nil_ _ _ _ _, fun e he => by cases he⟩
  · simp at hcs
    obtain ⟨rfl, rfl, rfl⟩ := hcs
    have hlm : n0 ≤ m := by rw [hmm]; split <;> omega
    have hmx : c0 ≤ 9223372036854775807 := by simpa [maxLen] using hm
    rw [cO] at hi
    have hex : ∀ k, k ≤ n0 → ∃ os : List BOp, os.length = k ∧ (∀ j u, (opscells os)[j]? = some u → W.cell? (a.add j) = some u) ∧ ∀ o ∈ os, o.In W := by
      intro k
      induction k with
      | zero => exact fun _ => ⟨[], rfl, fun j u h => by simp [opscells] at h, fun e he => by cases he⟩
      | succ k ih =>
        intro hk
        obtain ⟨os, h1, h2, h3⟩ := ih (by omega)
        obtain ⟨cs', hc, ht'⟩ := hi k (by omega)
        obtain ⟨o, ho, hin⟩ := bop_trod ht'
        obtain ⟨_, hcl, hat⟩ := World.cells?_some hc
        have e : opscells (os ++ [o]) = opscells os ++ o.cells := by simp [opscells]
        refine ⟨os ++ [o], by simp [h1], fun j u hu => ?_, fun o' ho' => ?_⟩
        · rw [e, ho] at hu
          have hlen : (opscells os).length = k * 13 := by rw [opscells_len, h1]
          by_cases hj : j < k * 13
          · rw [List.getElem?_append_left (by omega)] at hu
            exact h2 j u hu
          · rw [List.getElem?_append_right (by omega), hlen] at hu
            obtain ⟨i, rfl⟩ : ∃ i, j = k * 13 + i := ⟨j - k * 13, by omega⟩
            rw [Nat.add_sub_cancel_left] at hu
            have hil := (List.getElem?_eq_some_iff.1 hu).1
            rw [← Go.Deep.add_add, hat i (by omega), hu]
        · rcases List.mem_append.1 ho' with h | h
          · exact h3 o' h
          · rw [List.mem_singleton.1 h]; exact hin
    obtain ⟨os, h1, h2, h3⟩ := hex n0 (Nat.le_refl _)
    subst h1
    exact ⟨os, some a, c0, 0, a.block + 1, rfl, ⟨opscells_len os, hl, hmx, fun _ => ⟨a, rfl, Nat.zero_le _, Nat.lt_succ_self _, h2⟩⟩, h3⟩
theorem bagPlays_law (w : World) {v : Value} {os : List BOp} (hO : BOps w v os) (hT : Tab w) (hH0 : 0 < w.heap.size) :
    Calls Tryd.prog 10 #[v] w fun e w' => e = .returned (.bool true) ∧ Below w.heap.size w w' := by
  obtain ⟨A, c, lo, hi, rfl, hs, hm⟩ := hO
  exact bagPlays_any w os hs hm hT hH0
end Go.Proofs.YtciolppoanfiaaaDoor
