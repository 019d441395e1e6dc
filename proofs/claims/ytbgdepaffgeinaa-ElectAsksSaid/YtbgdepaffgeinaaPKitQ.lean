/- A slice of ints and a message: arguments opened. -/
import Derived.Test.YtbgdepaffgeinaaPKit
import Derived.Test.YtbgdepaffgeinaaElOps
import Derived.Deep.Slices
import Derived.Deep.Fields
namespace Go.Proofs.Ytbgdepaffgeinaa
open Go.ChangeShapes Go.WideShapes Go.ChangeAt Go.RowKit Go.Deep
/-- v is a slice of ints that reads as zs -/
def IntsIn (W : World) (v : Value) (zs : List Int) : Prop := ∃ A c lo hi, v = .slice A zs.length c ∧ Sl W lo hi 1 A zs.length c (zs.map iv)
set_option maxRecDepth 100000 in
theorem open_ints_in {H : Type} {enc : TypeId × Value → H} {W : World} {base : Nat} {v : Value} {d : DataW H} {p : List MemPlace} (hv : Value.okWide Try.prog W .any base 51 v)
    (h : DataW.Trod enc Try.prog W 0 (fun _ => true) true 51 v d p) : ∃ zs, IntsIn W v zs := by
  obtain ⟨a0, n, c, rfl⟩ := okWide_slice Try.underlying51 hv
  obtain ⟨fuel, hf⟩ := h
  rcases open_ints Try.underlying51 Try.underlying3 (by kernel_rfl) hf with ⟨hcs, _⟩ | ⟨x, n, c, zs, hcs, _, hl, hm, hz, _, hcell, hwz⟩
  · simp [Value.cells] at hcs
    obtain ⟨rfl, rfl, rfl⟩ := hcs
    exact ⟨[], none, 0, 0, 0, rfl, Sl.nil_ _ _ _ _⟩
  · simp [Value.cells] at hcs
    obtain ⟨rfl, rfl, rfl⟩ := hcs
    have hlz : n ≤ zs.length := by rw [hz]; split <;> omega
    have hlen : (zs.take n).length = n := by rw [List.length_take]; omega
    refine ⟨zs.take n, some x, c, 0, x.block + 1, by rw [hlen], ⟨by rw [List.length_map, Nat.mul_one], by rw [hlen]; exact hl, by simpa [maxLen] using hm, fun _ => ⟨x, rfl, Nat.zero_le _, Nat.lt_succ_self _, fun j u hu => ?_⟩⟩⟩
    rw [List.getElem?_map, List.getElem?_take] at hu
    split at hu
    · cases hj : zs[j]? with
      | none => rw [hj] at hu; cases hu
      | some z =>
        rw [hj] at hu
        have hu' : iv z = u := by simpa using hu
        have hjl := (List.getElem?_eq_some_iff.1 hj).1
        rw [hcell j hjl, ← hu']
        simp [iv, List.getD, hj]
    · cases hu
section
variable {H : Type} {enc : TypeId × Value → H} {P : Program} {w : World} {base : Nat} {spare : Nat → Bool} {held : Bool}
theorem open_agg_fields {r : Reach} {b0 : Nat} {t : TypeId} {fs : Array Field} {v : Value} {d : DataW H} {p : List MemPlace} (hs : P.underlying t = some (.struct fs)) (hone : oneCellFields P fs = true) (hC : P.cellsOf t = fs.size)
    (hv : Value.okWide P w r b0 t v) (h : DataW.Trod enc P w base spare held t v d p) :
    ∃ cs : Array Value, v = .agg cs ∧ cs.size = fs.size ∧ ∃ n : Nat, ∀ (j : Nat) (f : Field), fs[j]? = some f → ∃ (u : Value) (y : DataW H × List MemPlace), cs[j]? = some u ∧ DataW.trod enc P w base spare held n f.type [u] = some y := by
  obtain ⟨cs, rfl, hsz⟩ := okWide_struct hs hv
  obtain ⟨fuel, hf⟩ := h
  have hf' : DataW.trod enc P w base spare held fuel t cs.toList = some (d, p) := by simpa [Value.cells] using hf
  obtain ⟨ys, n', hn', hy, hlen, hyl, hf2⟩ := DataW.trod_struct hs hf'
  refine ⟨cs, rfl, hsz.trans hC, n', fun j f hj => ?_⟩
  obtain ⟨ho, hk⟩ := hone_of hone j f hj
  have hjl : j < fs.size := (Array.getElem?_eq_some_iff.1 hj).1
  have hjc : j < cs.toList.length := by rw [Array.length_toList]; omega
  have h1 := hf2 j f hj
  rw [ho, hk] at h1
  have hone' : (cs.toList.drop j).take 1 = [cs.toList[j]] := by
    rw [List.drop_eq_getElem_cons hjc]
    rfl
  rw [hone'] at h1
  have hys : ys[j]? = some (ys[j]'(by omega)) := List.getElem?_eq_getElem (by omega)
  exact ⟨_, _, by rw [← Array.getElem?_toList, List.getElem?_eq_getElem hjc], h1.trans hys⟩
end
theorem array10 {cs : Array Value} (h : cs.size = 10) : ∃ a b c d e f g h i j, cs = #[a, b, c, d, e, f, g, h, i, j] := by
  obtain ⟨l⟩ := cs
  match l, h with
  | [a, b, c, d, e, f, g, h, i, j], _ => exact ⟨a, b, c, d, e, f, g, h, i, j, rfl⟩
/-- v is a message whose data and entries can be read -/
def MsgQ (W : World) (v : Value) (es : List Ent) : Prop := ∃ (k f d : Int) (t i q cm : Nat) (ok : Bool) (dA : Option Addr) (dn dc : Nat) (mA : Option Addr) (mc lo hi : Nat),
  v = .agg #[.int .i64 k, .int .i64 f, .int .i64 d, .int .u64 (t : Int), .int .u64 (i : Int), .int .u64 (q : Int), .int .u64 (cm : Int), .bool ok, .slice dA dn dc, .slice mA es.length mc] ∧ dn ≤ 9223372036854775807 ∧ Sl W lo hi 3 mA es.length mc (ecells es)
set_option maxRecDepth 100000 in
theorem open_msg_in {H : Type} {enc : TypeId × Value → H} {W : World} {base : Nat} {v : Value} {d : DataW H} {p : List MemPlace} (hv : Value.okWide Try.prog W .any base 81 v)
    (h : DataW.Trod enc Try.prog W 0 (fun _ => true) true 81 v d p) : ∃ es, MsgQ W v es := by
  obtain ⟨cs, rfl, hsz, n, hat⟩ := open_agg_fields Try.underlying81 (by kernel_rfl) (by kernel_rfl) hv h
  obtain ⟨v0, v1, v2, v3, v4, v5, v6, v7, v8, v9, rfl⟩ := array10 hsz
  obtain ⟨u0, y0, e0, t0⟩ := hat 0 _ rfl
  obtain ⟨u1, y1, e1, t1⟩ := hat 1 _ rfl
  obtain ⟨u2, y2, e2, t2⟩ := hat 2 _ rfl
  obtain ⟨u3, y3, e3, t3⟩ := hat 3 _ rfl
  obtain ⟨u4, y4, e4, t4⟩ := hat 4 _ rfl
  obtain ⟨u5, y5, e5, t5⟩ := hat 5 _ rfl
  obtain ⟨u6, y6, e6, t6⟩ := hat 6 _ rfl
  obtain ⟨u7, y7, e7, t7⟩ := hat 7 _ rfl
  obtain ⟨u8, y8, e8, t8⟩ := hat 8 _ rfl
  obtain ⟨u9, y9, e9, t9⟩ := hat 9 _ rfl
  obtain rfl : v0 = u0 := by simpa using e0
  obtain rfl : v1 = u1 := by simpa using e1
  obtain rfl : v2 = u2 := by simpa using e2
  obtain rfl : v3 = u3 := by simpa using e3
  obtain rfl : v4 = u4 := by simpa using e4
  obtain rfl : v5 = u5 := by simpa using e5
  obtain rfl : v6 = u6 := by simpa using e6
  obtain rfl : v7 = u7 := by simpa using e7
  obtain rfl : v8 = u8 := by simpa using e8
  obtain rfl : v9 = u9 := by simpa using e9
  obtain ⟨z0, hz0, _, hw0⟩ := DataW.trod_int Try.underlying3 t0
  obtain ⟨z1, hz1, _, hw1⟩ := DataW.trod_int Try.underlying3 t1
  obtain ⟨z2, hz2, _, hw2⟩ := DataW.trod_int Try.underlying3 t2
  obtain ⟨z3, hz3, _, hw3⟩ := DataW.trod_int Try.underlying22 t3
  obtain ⟨z4, hz4, _, hw4⟩ := DataW.trod_int Try.underlying22 t4
  obtain ⟨z5, hz5, _, hw5⟩ := DataW.trod_int Try.underlying22 t5
  obtain ⟨z6, hz6, _, hw6⟩ := DataW.trod_int Try.underlying22 t6
  obtain ⟨z7, hz7, _⟩ := DataW.trod_bool Try.underlying4 t7
  obtain ⟨l, hl⟩ := bytes_trod t8
  obtain ⟨es, A9, c9, lo9, hi9, e9', hs9, hd9, ht9⟩ := entries_trod t9
  obtain ⟨n3, b3, rfl⟩ := nat_u64 hw3
  obtain ⟨n4, b4, rfl⟩ := nat_u64 hw4
  obtain ⟨n5, b5, rfl⟩ := nat_u64 hw5
  obtain ⟨n6, b6, rfl⟩ := nat_u64 hw6
  obtain rfl : v0 = .int .i64 z0 := by simpa using hz0
  obtain rfl : v1 = .int .i64 z1 := by simpa using hz1
  obtain rfl : v2 = .int .i64 z2 := by simpa using hz2
  obtain rfl : v3 = .int .u64 n3 := by simpa using hz3
  obtain rfl : v4 = .int .u64 n4 := by simpa using hz4
  obtain rfl : v5 = .int .u64 n5 := by simpa using hz5
  obtain rfl : v6 = .int .u64 n6 := by simpa using hz6
  obtain rfl : v7 = .bool z7 := by simpa using hz7
  obtain ⟨lo8, hi8, A8, c8, rfl, hs8⟩ := hl
  subst e9'
  exact ⟨es, z0, z1, z2, n3, n4, n5, n6, z7, A8, _, c8, A9, c9, _, _, rfl, Nat.le_trans hs8.cap hs8.max, hs9⟩
end Go.Proofs.Ytbgdepaffgeinaa
