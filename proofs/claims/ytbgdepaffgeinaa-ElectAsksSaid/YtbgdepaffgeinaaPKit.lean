/- What the statements of this seat share: arguments opened. -/
import Derived.Test.YtbgdepaffgeinaaRows
import Derived.Test.YtbgdepaffgeinaaRSame
import Derived.WalkKit
import Derived.ProofKit
import Derived.OpenShut
import Derived.ChangeOld
import Derived.Below
import Derived.Deep.Slices
import Derived.Deep.Fields
import Derived.ChangeSame
import Derived.Lib.SmallJoins
namespace Go.Proofs.Ytbgdepaffgeinaa
open Go.ChangeShapes Go.WideShapes Go.ChangeAt Go.RowKit Go.Deep

theorem nat_u64 {a : Int} (h : (Lit.int .u64 a).wf = true) : ∃ n : Nat, n < 18446744073709551616 ∧ a = (n : Int) := by
  have := bounds_u64 h
  exact ⟨a.toNat, by omega, by omega⟩
theorem bytes_nil (w : World) : Bytes w (.slice none 0 0) [] := ⟨0, 0, none, 0, rfl, Sl.nil_ _ _ _ _⟩
/-- A slice of bytes that came in reads as a list of bytes. -/
theorem bytes_of_open {W : World} {a : Addr} {len cap : Nat} {zs : List Int} (hl : len ≤ cap) (hm : cap ≤ maxLen) (hz : len ≤ zs.length) (hcell : ∀ i, i < zs.length → W.cell? (a.add i) = some (.int .u8 (zs.getD i 0))) (hwz : ∀ n ∈ zs, (Lit.int .u8 n).wf = true) :
    ∃ l, Bytes W (.slice (some a) len cap) l := by
  refine ⟨(zs.take len).map fun z => UInt8.ofNat z.toNat, ?_⟩
  have e : ∀ z ∈ zs, bv (UInt8.ofNat z.toNat) = .int .u8 z := by
    intro z hz'
    have := bounds_u8 (hwz z hz')
    unfold bv
    rw [UInt8.toNat_ofNat']
    congr 1
    omega
  have hs : Sl W 0 (a.block + 1) 1 (some a) len cap (((zs.take len).map fun z => UInt8.ofNat z.toNat).map bv) := by
    refine ⟨by simp; omega, hl, by simpa [maxLen] using hm, fun _ => ⟨a, rfl, Nat.zero_le _, Nat.lt_succ_self _, fun j u hu => ?_⟩⟩
    rw [List.map_map, List.getElem?_map] at hu
    cases hj : (zs.take len)[j]? with
    | none => rw [hj] at hu; cases hu
    | some z =>
      rw [hj] at hu
      have hu' : bv (UInt8.ofNat z.toNat) = u := by simpa using hu
      have hmem : z ∈ zs := List.mem_of_mem_take (List.mem_of_getElem? hj)
      rw [List.getElem?_take] at hj
      split at hj
      · have hjl := (List.getElem?_eq_some_iff.1 hj).1
        rw [hcell j hjl, ← hu', e z hmem]
        simp [List.getD, hj]
      · cases hj
  exact hs.bytes
set_option maxRecDepth 100000 in
theorem bytes_trod {H : Type} {enc : TypeId × Value → H} {W : World} {base fuel : Nat} {spare : Nat → Bool} {held : Bool} {v : Value} {x : DataW H × List MemPlace} (hf : DataW.trod enc Try.prog W base spare held fuel 33 [v] = some x) : ∃ l, Bytes W v l := by
  rcases open_ints Try.underlying33 Try.underlying5 (by kernel_rfl) hf with ⟨hcs, _⟩ | ⟨x, n, c, zs, hcs, _, hl, hm, hz, _, hcell, hwz⟩
  · obtain rfl : v = .slice none 0 0 := by simpa using hcs
    exact ⟨[], bytes_nil W⟩
  · obtain rfl : v = .slice (some x) n c := by simpa using hcs
    exact bytes_of_open hl hm (by rw [hz]; split <;> omega) hcell hwz
section
variable {H : Type} {enc : TypeId × Value → H} {P : Program} {w : World} {base : Nat} {spare : Nat → Bool} {held : Bool}
theorem open_slice_fields {t e : TypeId} {fs : Array Field} {fuel : Nat} {cs : List Value} {x : DataW H × List MemPlace} (ht : P.underlying t = some (.slice e)) (he : P.underlying e = some (.struct fs))
    (hone : oneCellFields P fs = true) (hC : P.cellsOf e = fs.size) (h : DataW.trod enc P w base spare held fuel t cs = some x) :
    (cs = [.slice none 0 0] ∧ x = (.nil, [])) ∨
    ∃ (a : Addr) (len cap m : Nat), cs = [.slice (some a) len cap] ∧ len ≤ cap ∧ cap ≤ maxLen ∧ m = (if spare a.block then cap else len) ∧
      ∀ i, i < m → ∃ (n : Nat), 
        ∀ (j : Nat) (f : Field), fs[j]? = some f → ∃ (v : Value) (y : DataW H × List MemPlace), w.cell? (a.add (i * fs.size + j)) = some v ∧ DataW.trod enc P w base spare held n f.type [v] = some y := by
  rcases open_slice ht h with h0 | ⟨a, len, cap, m, n, D, Pl, hcs, hb, hl, hm, hmm, hx, hi⟩
  · exact .inl h0
  · refine .inr ⟨a, len, cap, m, hcs, hl, hm, hmm, fun i him => ?_⟩
    obtain ⟨cs', hc, ht'⟩ := hi i him
    rw [hC] at hc
    obtain ⟨ys, n', hn', hy, hlen, hyl, hf⟩ := DataW.trod_struct he ht'
    obtain ⟨_, hcl, hat⟩ := World.cells?_some hc
    refine ⟨n', fun j f hj => ?_⟩
    obtain ⟨ho, hk⟩ := hone_of hone j f hj
    have hjl : j < fs.size := (Array.getElem?_eq_some_iff.1 hj).1
    have hcell := hat j hjl
    have hv : cs'[j]? = some (cs'[j]'(by omega)) := List.getElem?_eq_getElem (by omega)
    have h1 := hf j f hj
    rw [ho, hk] at h1
    have hone' : (cs'.drop j).take 1 = [cs'[j]'(by omega)] := by
      rw [List.drop_eq_getElem_cons (by omega)]
      rfl
    rw [hone'] at h1
    have hys : ys[j]? = some (ys[j]'(by omega)) := List.getElem?_eq_getElem (by omega)
    refine ⟨_, _, ?_, h1.trans hys⟩
    rw [← Go.Deep.add_add, hcell, hv]
end
/-- v is a slice of entries that reads as es, and their bytes -/
def Ents (W : World) (v : Value) (es : List Ent) : Prop := ∃ A c lo hi, v = .slice A es.length c ∧ Sl W lo hi 3 A es.length c (ecells es) ∧ EData W es ∧ ∀ e ∈ es, e.t < 18446744073709551616
set_option maxRecDepth 100000 in
theorem entry_cells {H : Type} {enc : TypeId × Value → H} {W : World} {base n : Nat} {spare : Nat → Bool} {held : Bool} {v0 v1 v2 : Value} {y0 y1 y2 : DataW H × List MemPlace}
    (h0 : DataW.trod enc Try.prog W base spare held n 22 [v0] = some y0) (h1 : DataW.trod enc Try.prog W base spare held n 3 [v1] = some y1) (h2 : DataW.trod enc Try.prog W base spare held n 33 [v2] = some y2) :
    ∃ e : Ent, v0 = .int .u64 (e.t : Int) ∧ v1 = .int .i64 e.k ∧ v2 = .slice e.A e.l.length e.c ∧ Bytes W (.slice e.A e.l.length e.c) e.l ∧ e.t < 18446744073709551616 := by
  obtain ⟨z0, hz0, _, hw0⟩ := DataW.trod_int Try.underlying22 h0
  obtain ⟨z1, hz1, _, hw1⟩ := DataW.trod_int Try.underlying3 h1
  obtain ⟨l, hl⟩ := bytes_trod h2
  obtain ⟨m, hm, rfl⟩ := nat_u64 hw0
  have hl' := hl
  obtain ⟨_, _, A, c, e, _⟩ := hl'
  exact ⟨⟨m, z1, A, c, l⟩, by simpa using hz0, by simpa using hz1, e, e ▸ hl, hm⟩
set_option maxRecDepth 100000 in
theorem entries_trod {H : Type} {enc : TypeId × Value → H} {W : World} {base fuel : Nat} {spare : Nat → Bool} {held : Bool} {v : Value} {x : DataW H × List MemPlace} (hf : DataW.trod enc Try.prog W base spare held fuel 23 [v] = some x) : ∃ es, Ents W v es := by
  rcases open_slice_fields Try.underlying23 Try.underlying35 (by kernel_rfl) (by kernel_rfl) hf with ⟨hcs, _⟩ | ⟨a, len, cap, m, hcs, hl, hm, hmm, hi⟩
  · obtain rfl : v = .slice none 0 0 := by simpa using hcs
    exact ⟨[], none, 0, 0, 0, rfl, Sl.nil_ _ _ _ _, fun e he => by simp at he, fun e he => by simp at he⟩
  · obtain rfl : v = .slice (some a) len cap := by simpa using hcs
    have hlm : len ≤ m := by rw [hmm]; split <;> omega
    have hex : ∀ k, k ≤ len → ∃ es : List Ent, es.length = k ∧ (∀ j u, (ecells es)[j]? = some u → W.cell? (a.add j) = some u) ∧ EData W es ∧ ∀ e ∈ es, e.t < 18446744073709551616 := by
      intro k
      induction k with
      | zero => exact fun _ => ⟨[], rfl, fun j u h => by simp [ecells] at h, fun e he => by simp at he, fun e he => by simp at he⟩
      | succ k ih =>
        intro hk
        obtain ⟨es, h1, h2, h3, h4⟩ := ih (by omega)
        obtain ⟨n, hn⟩ := hi k (by omega)
        obtain ⟨v0, y0, c0, t0⟩ := hn 0 _ rfl
        obtain ⟨v1, y1, c1, t1⟩ := hn 1 _ rfl
        obtain ⟨v2, y2, c2, t2⟩ := hn 2 _ rfl
        obtain ⟨e, rfl, rfl, rfl, hd, hb⟩ := entry_cells t0 t1 t2
        refine ⟨es ++ [e], by simp [h1], fun j u hu => ?_, fun e' he' => ?_, fun e' he' => ?_⟩
        · rw [ecells_append] at hu
          have hlen : (ecells es).length = k * 3 := by rw [ecells_len, h1]
          by_cases hj : j < k * 3
          · rw [List.getElem?_append_left (by omega)] at hu
            exact h2 j u hu
          · rw [List.getElem?_append_right (by omega), hlen] at hu
            obtain ⟨i, rfl⟩ : ∃ i, j = k * 3 + i := ⟨j - k * 3, by omega⟩
            rw [Nat.add_sub_cancel_left] at hu
            match i, hu with
            | 0, hu => simp [ecells] at hu; subst hu; exact c0
            | 1, hu => simp [ecells] at hu; subst hu; exact c1
            | 2, hu => simp [ecells] at hu; subst hu; exact c2
            | i + 3, hu => simp [ecells] at hu
        · rcases List.mem_append.1 he' with h | h
          · exact h3 e' h
          · rw [List.mem_singleton.1 h]; exact hd
        · rcases List.mem_append.1 he' with h | h
          · exact h4 e' h
          · rw [List.mem_singleton.1 h]; exact hb
    obtain ⟨es, h1, h2, h3, h4⟩ := hex len (Nat.le_refl _)
    subst h1
    refine ⟨es, some a, cap, 0, a.block + 1, rfl, ⟨ecells_len es, hl, by simpa [maxLen] using hm, fun _ => ⟨a, rfl, Nat.zero_le _, Nat.lt_succ_self _, h2⟩⟩, h3, h4⟩
set_option maxRecDepth 100000 in
theorem open_entries {H : Type} {enc : TypeId × Value → H} {W : World} {base : Nat} {v : Value} {d : DataW H} {p : List MemPlace} (hv : Value.okWide Try.prog W .any base 23 v)
    (h : DataW.Trod enc Try.prog W 0 (fun _ => true) true 23 v d p) : ∃ es, Ents W v es := by
  obtain ⟨a0, n, c, rfl⟩ := okWide_slice Try.underlying23 hv
  obtain ⟨fuel, hf⟩ := h
  exact entries_trod (by simpa [Value.cells] using hf)
/-- v is a log: its base, its base's term, its entries -/
def IsLog (W : World) (v : Value) (l : Nat × Nat × List Ent) : Prop := ∃ u, v = .agg #[.int .u64 (l.1 : Int), .int .u64 (l.2.1 : Int), u] ∧ Ents W u l.2.2 ∧ l.1 < 18446744073709551616 ∧ l.2.1 < 18446744073709551616
set_option maxRecDepth 100000 in
theorem open_log {H : Type} {enc : TypeId × Value → H} {W : World} {base : Nat} {v : Value} {d : DataW H} {p : List MemPlace} (hv : Value.okWide Try.prog W .any base 25 v)
    (h : DataW.Trod enc Try.prog W 0 (fun _ => true) true 25 v d p) : ∃ l, IsLog W v l := by
  obtain ⟨v0, v1, v2, y0, y1, y2, n, rfl, _, _, t0, t1, t2⟩ := Joins.open_agg3 Try.underlying25 (by kernel_rfl) (by kernel_rfl) hv h
  obtain ⟨z0, hz0, _, hw0⟩ := DataW.trod_int Try.underlying22 t0
  obtain ⟨z1, hz1, _, hw1⟩ := DataW.trod_int Try.underlying22 t1
  obtain ⟨n0, b0, rfl⟩ := nat_u64 hw0
  obtain ⟨n1, b1, rfl⟩ := nat_u64 hw1
  obtain ⟨es, he⟩ := entries_trod t2
  obtain rfl : v0 = _ := by simpa using hz0
  obtain rfl : v1 = _ := by simpa using hz1
  exact ⟨(n0, n1, es), v2, rfl, he, b0, b1⟩
end Go.Proofs.Ytbgdepaffgeinaa
