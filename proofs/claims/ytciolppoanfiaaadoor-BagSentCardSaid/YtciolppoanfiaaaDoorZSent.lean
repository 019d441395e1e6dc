import Derived.Test.YtciolppoanfiaaaDoorPKitW
import Derived.Test.YtciolppoanfiaaaDoorXMsgs
import Derived.Test.YtciolppoanfiaaaDoorZBase
import Derived.OpenShut
import Derived.ChangeOld
import Derived.ProofKit
import Derived.Deep.Slices
import Derived.Test.YtciolppoanfiaaaDoorWBagSent
/- A slice of messages that came in. -/
namespace Go.Proofs.YtciolppoanfiaaaDoor
open Go.ChangeShapes Go.WideShapes Go.ChangeAt Go.RowKit Go.Deep
/-- v is a slice of messages that reads as ms -/
def Msgs (W : World) (v : Value) (ms : List Msg) : Prop := ∃ A c lo hi, v = .slice A ms.length c ∧ Sl W lo hi 10 A ms.length c (mscells ms) ∧ ∀ m ∈ ms, IsMsg W m ∧ m.plain.fits
set_option maxRecDepth 100000 in
theorem msg_cells {H : Type} {enc : TypeId × Value → H} {W : World} {base n : Nat} {spare : Nat → Bool} {held : Bool} {v0 v1 v2 v3 v4 v5 v6 v7 v8 v9 : Value} {y0 y1 y2 y3 y4 y5 y6 y7 y8 y9 : DataW H × List MemPlace}
    (t0 : DataW.trod enc Tryd.prog W base spare held n 3 [v0] = some y0) (t1 : DataW.trod enc Tryd.prog W base spare held n 3 [v1] = some y1) (t2 : DataW.trod enc Tryd.prog W base spare held n 3 [v2] = some y2)
    (t3 : DataW.trod enc Tryd.prog W base spare held n 38 [v3] = some y3) (t4 : DataW.trod enc Tryd.prog W base spare held n 38 [v4] = some y4) (t5 : DataW.trod enc Tryd.prog W base spare held n 38 [v5] = some y5) (t6 : DataW.trod enc Tryd.prog W base spare held n 38 [v6] = some y6)
    (t7 : DataW.trod enc Tryd.prog W base spare held n 4 [v7] = some y7) (t8 : DataW.trod enc Tryd.prog W base spare held n 22 [v8] = some y8) (t9 : DataW.trod enc Tryd.prog W base spare held n 39 [v9] = some y9) :
    ∃ m : Msg, mlist m = [v0, v1, v2, v3, v4, v5, v6, v7, v8, v9] ∧ IsMsg W m ∧ m.plain.fits := by
  obtain ⟨z0, hz0, _, hw0⟩ := DataW.trod_int Tryd.underlying3 t0
  obtain ⟨z1, hz1, _, hw1⟩ := DataW.trod_int Tryd.underlying3 t1
  obtain ⟨z2, hz2, _, hw2⟩ := DataW.trod_int Tryd.underlying3 t2
  obtain ⟨z3, hz3, _, hw3⟩ := DataW.trod_int Tryd.underlying38 t3
  obtain ⟨z4, hz4, _, hw4⟩ := DataW.trod_int Tryd.underlying38 t4
  obtain ⟨z5, hz5, _, hw5⟩ := DataW.trod_int Tryd.underlying38 t5
  obtain ⟨z6, hz6, _, hw6⟩ := DataW.trod_int Tryd.underlying38 t6
  obtain ⟨z7, hz7, _⟩ := DataW.trod_bool Tryd.underlying4 t7
  obtain ⟨l, hl⟩ := bytes_trod t8
  obtain ⟨es, A9, c9, lo9, hi9, e9', hs9, hd9, ht9⟩ := entries_trod t9
  obtain ⟨n3, b3, rfl⟩ := nat_u64 hw3
  obtain ⟨n4, b4, rfl⟩ := nat_u64 hw4
  obtain ⟨n5, b5, rfl⟩ := nat_u64 hw5
  obtain ⟨n6, b6, rfl⟩ := nat_u64 hw6
  obtain rfl : v0 = .int .i64 z0 := by simpa using hz0
  obtain rfl : v1 = .int .i64 z1 := by simpa using hz1
  obtain rfl : v2 = .int .i64 z2 := by simpa using hz2
  obtain rfl : v3 = .int .u64 n3 := by simpa using hz3
  obtain rfl : v4 = .int .u64 n4 := by simpa using hz4
  obtain rfl : v5 = .int .u64 n5 := by simpa using hz5
  obtain rfl : v6 = .int .u64 n6 := by simpa using hz6
  obtain rfl : v7 = .bool z7 := by simpa using hz7
  obtain ⟨lo8, hi8, A8, c8, rfl, hs8⟩ := hl
  subst e9'
  refine ⟨⟨z0, z1, z2, n3, n4, n5, n6, z7, A8, c8, l, A9, c9, es⟩, rfl, ⟨⟨_, _, hs8⟩, ⟨_, _, hs9⟩, hd9⟩, ⟨⟨b3, b4, b5, b6⟩, ?_⟩⟩
  intro e he
  obtain ⟨x, hx, rfl⟩ := List.mem_map.1 he
  exact ht9 x hx
set_option maxRecDepth 100000 in
theorem msgs_trod {H : Type} {enc : TypeId × Value → H} {W : World} {base fuel : Nat} {spare : Nat → Bool} {held : Bool} {v : Value} {x : DataW H × List MemPlace} (hf : DataW.trod enc Tryd.prog W base spare held fuel 65 [v] = some x) : ∃ ms, Msgs W v ms := by
  rcases open_slice_fields Tryd.underlying65 Tryd.underlying41 (by kernel_rfl) (by kernel_rfl) hf with ⟨hcs, _⟩ | ⟨a, len, cap, m, hcs, hl, hm, hmm, hi⟩
  · obtain rfl : v = .slice none 0 0 := by simpa using hcs
    exact ⟨[], none, 0, 0, 0, rfl, Sl.nil_ _ _ _ _, fun e he => by simp at he⟩
  · obtain rfl : v = .slice (some a) len cap := by simpa using hcs
    have hlm : len ≤ m := by rw [hmm]; split <;> omega
    have hex : ∀ k, k ≤ len → ∃ ms : List Msg, ms.length = k ∧ (∀ j u, (mscells ms)[j]? = some u → W.cell? (a.add j) = some u) ∧ ∀ m ∈ ms, IsMsg W m ∧ m.plain.fits := by
      intro k
      induction k with
      | zero => exact fun _ => ⟨[], rfl, fun j u h => by simp [mscells] at h, fun e he => by simp at he⟩
      | succ k ih =>
        intro hk
        obtain ⟨ms, h1, h2, h3⟩ := ih (by omega)
        obtain ⟨n, hn⟩ := hi k (by omega)
        obtain ⟨v0, y0, c0, t0⟩ := hn 0 _ rfl
        obtain ⟨v1, y1, c1, t1⟩ := hn 1 _ rfl
        obtain ⟨v2, y2, c2, t2⟩ := hn 2 _ rfl
        obtain ⟨v3, y3, c3, t3⟩ := hn 3 _ rfl
        obtain ⟨v4, y4, c4, t4⟩ := hn 4 _ rfl
        obtain ⟨v5, y5, c5, t5⟩ := hn 5 _ rfl
        obtain ⟨v6, y6, c6, t6⟩ := hn 6 _ rfl
        obtain ⟨v7, y7, c7, t7⟩ := hn 7 _ rfl
        obtain ⟨v8, y8, c8, t8⟩ := hn 8 _ rfl
        obtain ⟨v9, y9, c9, t9⟩ := hn 9 _ rfl
        obtain ⟨e, he, hd, hb⟩ := msg_cells t0 t1 t2 t3 t4 t5 t6 t7 t8 t9
        refine ⟨ms ++ [e], by simp [h1], fun j u hu => ?_, fun e' he' => ?_⟩
        · rw [mscells_append, mscells_one', he] at hu
          have hlen : (mscells ms).length = k * 10 := by rw [mscells_len, h1]
          by_cases hj : j < k * 10
          · rw [List.getElem?_append_left (by omega)] at hu
            exact h2 j u hu
          · rw [List.getElem?_append_right (by omega), hlen] at hu
            obtain ⟨i, rfl⟩ : ∃ i, j = k * 10 + i := ⟨j - k * 10, by omega⟩
            rw [Nat.add_sub_cancel_left] at hu
            match i, hu with
            | 0, hu => simp at hu; subst hu; exact c0
            | 1, hu => simp at hu; subst hu; exact c1
            | 2, hu => simp at hu; subst hu; exact c2
            | 3, hu => simp at hu; subst hu; exact c3
            | 4, hu => simp at hu; subst hu; exact c4
            | 5, hu => simp at hu; subst hu; exact c5
            | 6, hu => simp at hu; subst hu; exact c6
            | 7, hu => simp at hu; subst hu; exact c7
            | 8, hu => simp at hu; subst hu; exact c8
            | 9, hu => simp at hu; subst hu; exact c9
            | i + 10, hu => simp at hu
        · rcases List.mem_append.1 he' with h | h
          · exact h3 e' h
          · rw [List.mem_singleton.1 h]; exact ⟨hd, hb⟩
    obtain ⟨ms, h1, h2, h3⟩ := hex len (Nat.le_refl _)
    subst h1
    refine ⟨ms, some a, cap, 0, a.block + 1, rfl, ⟨mscells_len ms, hl, by simpa [maxLen] using hm, fun _ => ⟨a, rfl, Nat.zero_le _, Nat.lt_succ_self _, h2⟩⟩, h3⟩
set_option maxRecDepth 100000 in
theorem open_msgs {H : Type} {enc : TypeId × Value → H} {W : World} {base : Nat} {v : Value} {d : DataW H} {p : List MemPlace} (hv : Value.okWide Tryd.prog W .any base 65 v)
    (h : DataW.Trod enc Tryd.prog W 0 (fun _ => true) true 65 v d p) : ∃ ms, Msgs W v ms := by
  obtain ⟨a0, n, c, rfl⟩ := okWide_slice Tryd.underlying65 hv
  obtain ⟨fuel, hf⟩ := h
  exact msgs_trod (by simpa [Value.cells] using hf)
end Go.Proofs.YtciolppoanfiaaaDoor

/- A slice of ints that came in. -/
namespace Go.Proofs.YtciolppoanfiaaaDoor
open Go.ChangeShapes Go.WideShapes Go.ChangeAt Go.RowKit
/-- v is a slice of ints that reads as zs -/
def IntsIn (W : World) (v : Value) (zs : List Int) : Prop := ∃ A c lo hi, v = .slice A zs.length c ∧ Sl W lo hi 1 A zs.length c (zs.map (Value.int .i64)) ∧ ∀ z ∈ zs, -9223372036854775808 ≤ z ∧ z ≤ 9223372036854775807
set_option maxRecDepth 100000 in
theorem open_intsIn {H : Type} {enc : TypeId × Value → H} {W : World} {base : Nat} {v : Value} {d : DataW H} {p : List MemPlace} (hv : Value.okWide Tryd.prog W .any base 66 v)
    (h : DataW.Trod enc Tryd.prog W 0 (fun _ => true) true 66 v d p) : ∃ zs, IntsIn W v zs := by
  obtain ⟨a0, n, c, rfl⟩ := okWide_slice Tryd.underlying66 hv
  obtain ⟨fuel, hf⟩ := h
  rcases open_ints Tryd.underlying66 Tryd.underlying3 (by kernel_rfl) hf with ⟨hcs, _⟩ | ⟨x, n, c, zs, hcs, _, hl, hm, hz, _, hcell, hwz⟩
  · simp [Value.cells] at hcs
    obtain ⟨rfl, rfl, rfl⟩ := hcs
    exact ⟨[], none, 0, 0, 0, rfl, Sl.nil_ _ _ _ _, fun z hz => by cases hz⟩
  · simp [Value.cells] at hcs
    obtain ⟨rfl, rfl, rfl⟩ := hcs
    have hlz : n ≤ zs.length := by rw [hz]; split <;> omega
    have hlen : (zs.take n).length = n := by rw [List.length_take]; omega
    refine ⟨zs.take n, some x, c, 0, x.block + 1, by rw [hlen], ⟨by rw [List.length_map, Nat.mul_one], by rw [hlen]; exact hl, by simpa [maxLen] using hm, fun _ => ⟨x, rfl, Nat.zero_le _, Nat.lt_succ_self _, fun j u hu => ?_⟩⟩, fun z hz' => bounds_i64 (hwz z (List.mem_of_mem_take hz'))⟩
    rw [List.getElem?_map, List.getElem?_take] at hu
    split at hu
    · cases hj : zs[j]? with
      | none => rw [hj] at hu; cases hu
      | some z =>
        rw [hj] at hu
        have hu' : Value.int .i64 z = u := by simpa using hu
        have hjl := (List.getElem?_eq_some_iff.1 hj).1
        rw [hcell j hjl, ← hu']
        simp [List.getD, hj]
    · cases hu
end Go.Proofs.YtciolppoanfiaaaDoor

/- BagSent, at arguments that came in. -/
namespace Go.Proofs.YtciolppoanfiaaaDoor
open Go.RowKit
theorem bagSent_law (w : World) {v : Value} {ls : List Msg} (hM : Msgs w v ls) {tw dr : Int} (rt : -9223372036854775808 ≤ tw ∧ tw ≤ 9223372036854775807) (rd : -9223372036854775808 ≤ dr ∧ dr ≤ 9223372036854775807) {vp : Value} {ps : List Int} (hI : IntsIn w vp ps) (hT : Tab w) (hH0 : 0 < w.heap.size) :
    Calls Tryd.prog 11 #[v, .int .i64 tw, .int .i64 dr, vp] w fun e w' => e = .returned (.bool true) ∧ Below w.heap.size w w' := by
  obtain ⟨A, c, lo, hi, rfl, hs, hm⟩ := hM
  obtain ⟨Ap, cp, lop, hip, rfl, hp, hpr⟩ := hI
  exact bagSent_any w ls hs hm tw dr rt rd ps hp hpr hT hH0
end Go.Proofs.YtciolppoanfiaaaDoor
