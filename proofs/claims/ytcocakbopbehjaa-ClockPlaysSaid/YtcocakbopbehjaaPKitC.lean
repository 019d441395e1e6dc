/- What the statements of this seat share: arguments opened. -/
import Derived.Test.YtcocakbopbehjaaClkRes
import Derived.WalkKit
import Derived.ProofKit
import Derived.OpenShut
import Derived.ChangeOld
import Derived.Below
import Derived.Deep.Slices
import Derived.Deep.Fields
import Derived.Deep.Grids
import Derived.ChangeSame
import Derived.Lib.SmallJoins
namespace Go.Proofs.Ytcocakbopbehjaa
open Go.ChangeShapes Go.WideShapes Go.ChangeAt Go.RowKit Go.Deep

theorem nat_u64 {a : Int} (h : (Lit.int .u64 a).wf = true) : ∃ n : Nat, n < 18446744073709551616 ∧ a = (n : Int) := by
  have := bounds_u64 h
  exact ⟨a.toNat, by omega, by omega⟩
section
variable {H : Type} {enc : TypeId × Value → H} {P : Program} {w : World} {base : Nat} {spare : Nat → Bool} {held : Bool}
theorem open_slice_fields {t e : TypeId} {fs : Array Field} {fuel : Nat} {cs : List Value} {x : DataW H × List MemPlace} (ht : P.underlying t = some (.slice e)) (he : P.underlying e = some (.struct fs))
    (hone : oneCellFields P fs = true) (hC : P.cellsOf e = fs.size) (h : DataW.trod enc P w base spare held fuel t cs = some x) :
    (cs = [.slice none 0 0] ∧ x = (.nil, [])) ∨
    ∃ (a : Addr) (len cap m : Nat), cs = [.slice (some a) len cap] ∧ len ≤ cap ∧ cap ≤ maxLen ∧ m = (if spare a.block then cap else len) ∧
      ∀ i, i < m → ∃ (n : Nat), 
        ∀ (j : Nat) (f : Field), fs[j]? = some f → ∃ (v : Value) (y : DataW H × List MemPlace), w.cell? (a.add (i * fs.size + j)) = some v ∧ DataW.trod enc P w base spare held n f.type [v] = some y := by
  rcases open_slice ht h with h0 | ⟨a, len, cap, m, n, D, Pl, hcs, hb, hl, hm, hmm, hx, hi⟩
  · exact .inl h0
  · refine .inr ⟨a, len, cap, m, hcs, hl, hm, hmm, fun i him => ?_⟩
    obtain ⟨cs', hc, ht'⟩ := hi i him
    rw [hC] at hc
    obtain ⟨ys, n', hn', hy, hlen, hyl, hf⟩ := DataW.trod_struct he ht'
    obtain ⟨_, hcl, hat⟩ := World.cells?_some hc
    refine ⟨n', fun j f hj => ?_⟩
    obtain ⟨ho, hk⟩ := hone_of hone j f hj
    have hjl : j < fs.size := (Array.getElem?_eq_some_iff.1 hj).1
    have hcell := hat j hjl
    have hv : cs'[j]? = some (cs'[j]'(by omega)) := List.getElem?_eq_getElem (by omega)
    have h1 := hf j f hj
    rw [ho, hk] at h1
    have hone' : (cs'.drop j).take 1 = [cs'[j]'(by omega)] := by
      rw [List.drop_eq_getElem_cons (by omega)]
      rfl
    rw [hone'] at h1
    have hys : ys[j]? = some (ys[j]'(by omega)) := List.getElem?_eq_getElem (by omega)
    refine ⟨_, _, ?_, h1.trans hys⟩
    rw [← Go.Deep.add_add, hcell, hv]
end
/-- v is a slice of numbers that reads as ns -/
def U64s (W : World) (v : Value) (ns : List Nat) : Prop := ∃ A c lo hi, v = .slice A ns.length c ∧ Sl W lo hi 1 A ns.length c (ns.map fun n : Nat => Value.int .u64 (n : Int)) ∧ ∀ n ∈ ns, n < 18446744073709551616
set_option maxRecDepth 100000 in
theorem open_u64s {H : Type} {enc : TypeId × Value → H} {W : World} {base : Nat} {v : Value} {d : DataW H} {p : List MemPlace} (hv : Value.okWide Try.prog W .any base 23 v)
    (h : DataW.Trod enc Try.prog W 0 (fun _ => true) true 23 v d p) : ∃ ns, U64s W v ns := by
  obtain ⟨a0, n, c, rfl⟩ := okWide_slice Try.underlying23 hv
  obtain ⟨fuel, hf⟩ := h
  rcases open_ints Try.underlying23 Try.underlying22 (by kernel_rfl) hf with ⟨hcs, _⟩ | ⟨x, n, c, zs, hcs, _, hl, hm, hz, _, hcell, hwz⟩
  · simp [Value.cells] at hcs
    obtain ⟨rfl, rfl, rfl⟩ := hcs
    exact ⟨[], none, 0, 0, 0, rfl, Sl.nil_ _ _ _ _, fun z hz => by cases hz⟩
  · simp [Value.cells] at hcs
    obtain ⟨rfl, rfl, rfl⟩ := hcs
    have hlz : n ≤ zs.length := by rw [hz]; split <;> omega
    have hlen : ((zs.take n).map Int.toNat).length = n := by rw [List.length_map, List.length_take]; omega
    refine ⟨(zs.take n).map Int.toNat, some x, c, 0, x.block + 1, by rw [hlen], ⟨by rw [List.length_map, Nat.mul_one], by rw [hlen]; exact hl, by simpa [maxLen] using hm, fun _ => ⟨x, rfl, Nat.zero_le _, Nat.lt_succ_self _, fun j u hu => ?_⟩⟩, fun z hz' => ?_⟩
    · rw [List.map_map, List.getElem?_map, List.getElem?_take] at hu
      split at hu
      · cases hj : zs[j]? with
        | none => rw [hj] at hu; cases hu
        | some z =>
          rw [hj] at hu
          have hu' : Value.int .u64 ((z.toNat : Nat) : Int) = u := by simpa using hu
          have hjl := (List.getElem?_eq_some_iff.1 hj).1
          have hb := bounds_u64 (hwz z (List.mem_of_getElem? hj))
          rw [hcell j hjl, ← hu']
          have e : ((z.toNat : Nat) : Int) = z := by omega
          rw [e]
          simp [List.getD, hj]
      · cases hu
    · obtain ⟨y, hy, rfl⟩ := List.mem_map.1 hz'
      have hb := bounds_u64 (hwz y (List.mem_of_mem_take hy))
      omega
/-- v is a slice of truths that reads as bs -/
def Bools (W : World) (v : Value) (bs : List Bool) : Prop := ∃ A c lo hi, v = .slice A bs.length c ∧ Sl W lo hi 1 A bs.length c (bs.map Value.bool)
set_option maxRecDepth 100000 in
theorem open_boolsIn {H : Type} {enc : TypeId × Value → H} {W : World} {base : Nat} {v : Value} {d : DataW H} {p : List MemPlace} (hv : Value.okWide Try.prog W .any base 24 v)
    (h : DataW.Trod enc Try.prog W 0 (fun _ => true) true 24 v d p) : ∃ bs, Bools W v bs := by
  obtain ⟨a0, n, c, rfl⟩ := okWide_slice Try.underlying24 hv
  obtain ⟨fuel, hf⟩ := h
  rcases open_bools Try.underlying24 Try.underlying4 (by kernel_rfl) hf with ⟨hcs, _⟩ | ⟨x, len, cap, B, hcs, _, hl, hm, _, hcell⟩
  · simp [Value.cells] at hcs
    obtain ⟨rfl, rfl, rfl⟩ := hcs
    exact ⟨[], none, 0, 0, 0, rfl, Sl.nil_ _ _ _ _⟩
  · simp [Value.cells] at hcs
    obtain ⟨rfl, rfl, rfl⟩ := hcs
    have hlen : ((List.range n).map B).length = n := by simp
    refine ⟨(List.range n).map B, some x, c, 0, x.block + 1, by rw [hlen], ⟨by rw [List.length_map, Nat.mul_one], by rw [hlen]; exact hl, by simpa [maxLen] using hm, fun _ => ⟨x, rfl, Nat.zero_le _, Nat.lt_succ_self _, fun j u hu => ?_⟩⟩⟩
    rw [List.getElem?_map, List.getElem?_map] at hu
    by_cases hj : j < n
    · rw [List.getElem?_range hj] at hu
      have hu' : Value.bool (B j) = u := by simpa using hu
      rw [← hu']
      exact hcell j (by omega)
    · rw [List.getElem?_eq_none (by simp; omega)] at hu
      cases hu
end Go.Proofs.Ytcocakbopbehjaa
