/- What the statements of this seat share: arguments opened. -/
import Derived.Test.YtciolppoanfiaaaDoorDoorKit
import Derived.Test.YtciolppoanfiaaaDoorXCheck
import Derived.Test.YtciolppoanfiaaaDoorZPlain
import Derived.WalkKit
import Derived.ProofKit
import Derived.OpenShut
import Derived.ChangeOld
import Derived.Below
import Derived.Deep.Slices
import Derived.Deep.Fields
import Derived.ChangeSame
import Derived.Lib.SmallJoins
namespace Go.Proofs.YtciolppoanfiaaaDoor
open Go.ChangeShapes Go.WideShapes Go.ChangeAt Go.RowKit Go.Deep

theorem nat_u64 {a : Int} (h : (Lit.int .u64 a).wf = true) : ∃ n : Nat, n < 18446744073709551616 ∧ a = (n : Int) := by
  have := bounds_u64 h
  exact ⟨a.toNat, by omega, by omega⟩
section
variable {H : Type} {enc : TypeId × Value → H} {P : Program} {w : World} {base : Nat} {spare : Nat → Bool} {held : Bool}
theorem open_slice_fields {t e : TypeId} {fs : Array Field} {fuel : Nat} {cs : List Value} {x : DataW H × List MemPlace} (ht : P.underlying t = some (.slice e)) (he : P.underlying e = some (.struct fs))
    (hone : oneCellFields P fs = true) (hC : P.cellsOf e = fs.size) (h : DataW.trod enc P w base spare held fuel t cs = some x) :
    (cs = [.slice none 0 0] ∧ x = (.nil, [])) ∨
    ∃ (a : Addr) (len cap m : Nat), cs = [.slice (some a) len cap] ∧ len ≤ cap ∧ cap ≤ maxLen ∧ m = (if spare a.block then cap else len) ∧
      ∀ i, i < m → ∃ (n : Nat), 
        ∀ (j : Nat) (f : Field), fs[j]? = some f → ∃ (v : Value) (y : DataW H × List MemPlace), w.cell? (a.add (i * fs.size + j)) = some v ∧ DataW.trod enc P w base spare held n f.type [v] = some y := by
  rcases open_slice ht h with h0 | ⟨a, len, cap, m, n, D, Pl, hcs, hb, hl, hm, hmm, hx, hi⟩
  · exact .inl h0
  · refine .inr ⟨a, len, cap, m, hcs, hl, hm, hmm, fun i him => ?_⟩
    obtain ⟨cs', hc, ht'⟩ := hi i him
    rw [hC] at hc
    obtain ⟨ys, n', hn', hy, hlen, hyl, hf⟩ := DataW.trod_struct he ht'
    obtain ⟨_, hcl, hat⟩ := World.cells?_some hc
    refine ⟨n', fun j f hj => ?_⟩
    obtain ⟨ho, hk⟩ := hone_of hone j f hj
    have hjl : j < fs.size := (Array.getElem?_eq_some_iff.1 hj).1
    have hcell := hat j hjl
    have hv : cs'[j]? = some (cs'[j]'(by omega)) := List.getElem?_eq_getElem (by omega)
    have h1 := hf j f hj
    rw [ho, hk] at h1
    have hone' : (cs'.drop j).take 1 = [cs'[j]'(by omega)] := by
      rw [List.drop_eq_getElem_cons (by omega)]
      rfl
    rw [hone'] at h1
    have hys : ys[j]? = some (ys[j]'(by omega)) := List.getElem?_eq_getElem (by omega)
    refine ⟨_, _, ?_, h1.trans hys⟩
    rw [← Go.Deep.add_add, hcell, hv]
theorem open_agg_fields {r : Reach} {b0 : Nat} {t : TypeId} {fs : Array Field} {v : Value} {d : DataW H} {p : List MemPlace} (hs : P.underlying t = some (.struct fs)) (hone : oneCellFields P fs = true) (hC : P.cellsOf t = fs.size)
    (hv : Value.okWide P w r b0 t v) (h : DataW.Trod enc P w base spare held t v d p) :
    ∃ cs : Array Value, v = .agg cs ∧ cs.size = fs.size ∧ ∃ n : Nat, ∀ (j : Nat) (f : Field), fs[j]? = some f → ∃ (u : Value) (y : DataW H × List MemPlace), cs[j]? = some u ∧ DataW.trod enc P w base spare held n f.type [u] = some y := by
  obtain ⟨cs, rfl, hsz⟩ := okWide_struct hs hv
  obtain ⟨fuel, hf⟩ := h
  have hf' : DataW.trod enc P w base spare held fuel t cs.toList = some (d, p) := by simpa [Value.cells] using hf
  obtain ⟨ys, n', hn', hy, hlen, hyl, hf2⟩ := DataW.trod_struct hs hf'
  refine ⟨cs, rfl, hsz.trans hC, n', fun j f hj => ?_⟩
  obtain ⟨ho, hk⟩ := hone_of hone j f hj
  have hjl : j < fs.size := (Array.getElem?_eq_some_iff.1 hj).1
  have hjc : j < cs.toList.length := by rw [Array.length_toList]; omega
  have h1 := hf2 j f hj
  rw [ho, hk] at h1
  have hone' : (cs.toList.drop j).take 1 = [cs.toList[j]] := by
    rw [List.drop_eq_getElem_cons hjc]
    rfl
  rw [hone'] at h1
  have hys : ys[j]? = some (ys[j]'(by omega)) := List.getElem?_eq_getElem (by omega)
  exact ⟨_, _, by rw [← Array.getElem?_toList, List.getElem?_eq_getElem hjc], h1.trans hys⟩
end
/-- v is a slice of entries that reads as es, and their bytes -/
def Ents (W : World) (v : Value) (es : List Ent) : Prop := ∃ A c lo hi, v = .slice A es.length c ∧ Sl W lo hi 3 A es.length c (ecells es) ∧ EData W es ∧ ∀ e ∈ es, e.t < 18446744073709551616
set_option maxRecDepth 100000 in
theorem entry_cells {H : Type} {enc : TypeId × Value → H} {W : World} {base n : Nat} {spare : Nat → Bool} {held : Bool} {v0 v1 v2 : Value} {y0 y1 y2 : DataW H × List MemPlace}
    (h0 : DataW.trod enc Tryd.prog W base spare held n 38 [v0] = some y0) (h1 : DataW.trod enc Tryd.prog W base spare held n 3 [v1] = some y1) (h2 : DataW.trod enc Tryd.prog W base spare held n 22 [v2] = some y2) :
    ∃ e : Ent, v0 = .int .u64 (e.t : Int) ∧ v1 = .int .i64 e.k ∧ v2 = .slice e.A e.l.length e.c ∧ Bytes W (.slice e.A e.l.length e.c) e.l ∧ e.t < 18446744073709551616 := by
  obtain ⟨z0, hz0, _, hw0⟩ := DataW.trod_int Tryd.underlying38 h0
  obtain ⟨z1, hz1, _, hw1⟩ := DataW.trod_int Tryd.underlying3 h1
  obtain ⟨l, hl⟩ := bytes_trod h2
  obtain ⟨m, hm, rfl⟩ := nat_u64 hw0
  have hl' := hl
  obtain ⟨_, _, A, c, e, _⟩ := hl'
  exact ⟨⟨m, z1, A, c, l⟩, by simpa using hz0, by simpa using hz1, e, e ▸ hl, hm⟩
set_option maxRecDepth 100000 in
theorem entries_trod {H : Type} {enc : TypeId × Value → H} {W : World} {base fuel : Nat} {spare : Nat → Bool} {held : Bool} {v : Value} {x : DataW H × List MemPlace} (hf : DataW.trod enc Tryd.prog W base spare held fuel 39 [v] = some x) : ∃ es, Ents W v es := by
  rcases open_slice_fields Tryd.underlying39 Tryd.underlying85 (by kernel_rfl) (by kernel_rfl) hf with ⟨hcs, _⟩ | ⟨a, len, cap, m, hcs, hl, hm, hmm, hi⟩
  · obtain rfl : v = .slice none 0 0 := by simpa using hcs
    exact ⟨[], none, 0, 0, 0, rfl, Sl.nil_ _ _ _ _, fun e he => by simp at he, fun e he => by simp at he⟩
  · obtain rfl : v = .slice (some a) len cap := by simpa using hcs
    have hlm : len ≤ m := by rw [hmm]; split <;> omega
    have hex : ∀ k, k ≤ len → ∃ es : List Ent, es.length = k ∧ (∀ j u, (ecells es)[j]? = some u → W.cell? (a.add j) = some u) ∧ EData W es ∧ ∀ e ∈ es, e.t < 18446744073709551616 := by
      intro k
      induction k with
      | zero => exact fun _ => ⟨[], rfl, fun j u h => by simp [ecells] at h, fun e he => by simp at he, fun e he => by simp at he⟩
      | succ k ih =>
        intro hk
        obtain ⟨es, h1, h2, h3, h4⟩ := ih (by omega)
        obtain ⟨n, hn⟩ := hi k (by omega)
        obtain ⟨v0, y0, c0, t0⟩ := hn 0 _ rfl
        obtain ⟨v1, y1, c1, t1⟩ := hn 1 _ rfl
        obtain ⟨v2, y2, c2, t2⟩ := hn 2 _ rfl
        obtain ⟨e, rfl, rfl, rfl, hd, hb⟩ := entry_cells t0 t1 t2
        refine ⟨es ++ [e], by simp [h1], fun j u hu => ?_, fun e' he' => ?_, fun e' he' => ?_⟩
        · rw [ecells_append] at hu
          have hlen : (ecells es).length = k * 3 := by rw [ecells_len, h1]
          by_cases hj : j < k * 3
          · rw [List.getElem?_append_left (by omega)] at hu
            exact h2 j u hu
          · rw [List.getElem?_append_right (by omega), hlen] at hu
            obtain ⟨i, rfl⟩ : ∃ i, j = k * 3 + i := ⟨j - k * 3, by omega⟩
            rw [Nat.add_sub_cancel_left] at hu
            match i, hu with
            | 0, hu => simp [ecells] at hu; subst hu; exact c0
            | 1, hu => simp [ecells] at hu; subst hu; exact c1
            | 2, hu => simp [ecells] at hu; subst hu; exact c2
            | i + 3, hu => simp [ecells] at hu
        · rcases List.mem_append.1 he' with h | h
          · exact h3 e' h
          · rw [List.mem_singleton.1 h]; exact hd
        · rcases List.mem_append.1 he' with h | h
          · exact h4 e' h
          · rw [List.mem_singleton.1 h]; exact hb
    obtain ⟨es, h1, h2, h3, h4⟩ := hex len (Nat.le_refl _)
    subst h1
    refine ⟨es, some a, cap, 0, a.block + 1, rfl, ⟨ecells_len es, hl, by simpa [maxLen] using hm, fun _ => ⟨a, rfl, Nat.zero_le _, Nat.lt_succ_self _, h2⟩⟩, h3, h4⟩
set_option maxRecDepth 100000 in
theorem open_entries {H : Type} {enc : TypeId × Value → H} {W : World} {base : Nat} {v : Value} {d : DataW H} {p : List MemPlace} (hv : Value.okWide Tryd.prog W .any base 39 v)
    (h : DataW.Trod enc Tryd.prog W 0 (fun _ => true) true 39 v d p) : ∃ es, Ents W v es := by
  obtain ⟨a0, n, c, rfl⟩ := okWide_slice Tryd.underlying39 hv
  obtain ⟨fuel, hf⟩ := h
  exact entries_trod (by simpa [Value.cells] using hf)
theorem array10 {cs : Array Value} (h : cs.size = 10) : ∃ a b c d e f g h i j, cs = #[a, b, c, d, e, f, g, h, i, j] := by
  obtain ⟨l⟩ := cs
  match l, h with
  | [a, b, c, d, e, f, g, h, i, j], _ => exact ⟨a, b, c, d, e, f, g, h, i, j, rfl⟩
set_option maxRecDepth 100000 in
theorem open_msg {H : Type} {enc : TypeId × Value → H} {W : World} {base : Nat} {v : Value} {d : DataW H} {p : List MemPlace} (hv : Value.okWide Tryd.prog W .any base 41 v)
    (h : DataW.Trod enc Tryd.prog W 0 (fun _ => true) true 41 v d p) : ∃ m : Msg, v = m.v ∧ IsMsg W m ∧ m.plain.fits := by
  obtain ⟨cs, rfl, hsz, n, hat⟩ := open_agg_fields Tryd.underlying41 (by kernel_rfl) (by kernel_rfl) hv h
  obtain ⟨v0, v1, v2, v3, v4, v5, v6, v7, v8, v9, rfl⟩ := array10 hsz
  obtain ⟨u0, y0, e0, t0⟩ := hat 0 _ rfl
  obtain ⟨u1, y1, e1, t1⟩ := hat 1 _ rfl
  obtain ⟨u2, y2, e2, t2⟩ := hat 2 _ rfl
  obtain ⟨u3, y3, e3, t3⟩ := hat 3 _ rfl
  obtain ⟨u4, y4, e4, t4⟩ := hat 4 _ rfl
  obtain ⟨u5, y5, e5, t5⟩ := hat 5 _ rfl
  obtain ⟨u6, y6, e6, t6⟩ := hat 6 _ rfl
  obtain ⟨u7, y7, e7, t7⟩ := hat 7 _ rfl
  obtain ⟨u8, y8, e8, t8⟩ := hat 8 _ rfl
  obtain ⟨u9, y9, e9, t9⟩ := hat 9 _ rfl
  obtain rfl : v0 = u0 := by simpa using e0
  obtain rfl : v1 = u1 := by simpa using e1
  obtain rfl : v2 = u2 := by simpa using e2
  obtain rfl : v3 = u3 := by simpa using e3
  obtain rfl : v4 = u4 := by simpa using e4
  obtain rfl : v5 = u5 := by simpa using e5
  obtain rfl : v6 = u6 := by simpa using e6
  obtain rfl : v7 = u7 := by simpa using e7
  obtain rfl : v8 = u8 := by simpa using e8
  obtain rfl : v9 = u9 := by simpa using e9
  obtain ⟨z0, hz0, _, hw0⟩ := DataW.trod_int Tryd.underlying3 t0
  obtain ⟨z1, hz1, _, hw1⟩ := DataW.trod_int Tryd.underlying3 t1
  obtain ⟨z2, hz2, _, hw2⟩ := DataW.trod_int Tryd.underlying3 t2
  obtain ⟨z3, hz3, _, hw3⟩ := DataW.trod_int Tryd.underlying38 t3
  obtain ⟨z4, hz4, _, hw4⟩ := DataW.trod_int Tryd.underlying38 t4
  obtain ⟨z5, hz5, _, hw5⟩ := DataW.trod_int Tryd.underlying38 t5
  obtain ⟨z6, hz6, _, hw6⟩ := DataW.trod_int Tryd.underlying38 t6
  obtain ⟨z7, hz7, _⟩ := DataW.trod_bool Tryd.underlying4 t7
  obtain ⟨l, hl⟩ := bytes_trod t8
  obtain ⟨es, A9, c9, lo9, hi9, e9', hs9, hd9, ht9⟩ := entries_trod t9
  obtain ⟨n3, b3, rfl⟩ := nat_u64 hw3
  obtain ⟨n4, b4, rfl⟩ := nat_u64 hw4
  obtain ⟨n5, b5, rfl⟩ := nat_u64 hw5
  obtain ⟨n6, b6, rfl⟩ := nat_u64 hw6
  obtain rfl : v0 = .int .i64 z0 := by simpa using hz0
  obtain rfl : v1 = .int .i64 z1 := by simpa using hz1
  obtain rfl : v2 = .int .i64 z2 := by simpa using hz2
  obtain rfl : v3 = .int .u64 n3 := by simpa using hz3
  obtain rfl : v4 = .int .u64 n4 := by simpa using hz4
  obtain rfl : v5 = .int .u64 n5 := by simpa using hz5
  obtain rfl : v6 = .int .u64 n6 := by simpa using hz6
  obtain rfl : v7 = .bool z7 := by simpa using hz7
  obtain ⟨lo8, hi8, A8, c8, rfl, hs8⟩ := hl
  subst e9'
  refine ⟨⟨z0, z1, z2, n3, n4, n5, n6, z7, A8, c8, l, A9, c9, es⟩, rfl, ⟨⟨_, _, hs8⟩, ⟨_, _, hs9⟩, hd9⟩, ⟨⟨b3, b4, b5, b6⟩, ?_⟩⟩
  intro e he
  obtain ⟨x, hx, rfl⟩ := List.mem_map.1 he
  exact ht9 x hx
end Go.Proofs.YtciolppoanfiaaaDoor
