/- What every card of this seat shares: the table's cells; arguments opened. -/
import Derived.Test.YtciolppoanfiaaaDoorCards
import Derived.Test.YtciolppoanfiaaaDoorTie
import Derived.Test.YtciolppoanfiaaaDoorWCheckSums
import Derived.WalkKit
import Derived.ProofKit
import Derived.OpenShut
import Derived.ChangeOld
import Derived.Deep.DeepHandedRow
import Derived.Deep.Slices
import Derived.Lib.LaidTab
namespace Go.Proofs.YtciolppoanfiaaaDoor
open Go.ChangeShapes Go.WideShapes Go.ChangeAt Go.RowKit

theorem own : ownKnob Tryd.prog.godebug = none := by kernel_rfl
theorem laidOut : laidOutB Tryd.prog = true := by kernel_rfl
theorem gTab : Tryd.prog.globalNamed "pursuivant/check.table" = some 0 := by kernel_rfl
theorem gTabType : (Tryd.prog.globals[0]?).map (·.type) = some 70 := by kernel_rfl
theorem cellsTab : Tryd.prog.cellsOf 70 = 16 := by kernel_rfl
theorem cellsU32 : Tryd.prog.cellsOf 24 = 1 := by kernel_rfl

theorem table {W : World} (h : laidMetH Tryd.prog Rows.checkSumsRow.laid W) : Lib.TabIs Tryd.prog W "pursuivant/check.table" .u32 [0, 498536548, 997073096, 651767980, 1994146192, 1802195444, 1303535960, 1342533948, 3988292384, 4027552580, 3604390888, 3412177804, 2607071920, 2262029012, 2685067896, 3183342108] :=
  Lib.tabIs_of_head (rest := []) gTab gTabType Tryd.underlying70 Tryd.underlying24 cellsU32 cellsTab h
theorem tab {W : World} (h : laidMetH Tryd.prog Rows.checkSumsRow.laid W) : Tab W := by
  intro i hi
  have t := (table h).cell gTab i (by simpa using hi)
  rw [t]
  have : ∀ i, i < 16 → ([0, 498536548, 997073096, 651767980, 1994146192, 1802195444, 1303535960, 1342533948, 3988292384, 4027552580, 3604390888, 3412177804, 2607071920, 2262029012, 2685067896, 3183342108] : List Int).getD i 0 = ((Crc.table.getD i 0 : Nat) : Int) := by decide
  rw [this i hi]

/-- A slice of bytes that came in reads as a list of bytes. -/
theorem bytes_of_open {W : World} {a : Addr} {len cap : Nat} {zs : List Int} (hl : len ≤ cap) (hm : cap ≤ maxLen) (hz : len ≤ zs.length) (hcell : ∀ i, i < zs.length → W.cell? (a.add i) = some (.int .u8 (zs.getD i 0))) (hwz : ∀ n ∈ zs, (Lit.int .u8 n).wf = true) :
    ∃ l, Bytes W (.slice (some a) len cap) l := by
  refine ⟨(zs.take len).map fun z => UInt8.ofNat z.toNat, ?_⟩
  have e : ∀ z ∈ zs, bv (UInt8.ofNat z.toNat) = .int .u8 z := by
    intro z hz'
    have := bounds_u8 (hwz z hz')
    unfold bv
    rw [UInt8.toNat_ofNat']
    congr 1
    omega
  have hs : Sl W 0 (a.block + 1) 1 (some a) len cap (((zs.take len).map fun z => UInt8.ofNat z.toNat).map bv) := by
    refine ⟨by simp; omega, hl, by simpa [maxLen] using hm, fun _ => ⟨a, rfl, Nat.zero_le _, Nat.lt_succ_self _, fun j u hu => ?_⟩⟩
    rw [List.map_map, List.getElem?_map] at hu
    cases hj : (zs.take len)[j]? with
    | none => rw [hj] at hu; cases hu
    | some z =>
      rw [hj] at hu
      have hu' : bv (UInt8.ofNat z.toNat) = u := by simpa using hu
      have hmem : z ∈ zs := List.mem_of_mem_take (List.mem_of_getElem? hj)
      rw [List.getElem?_take] at hj
      split at hj
      · have hjl := (List.getElem?_eq_some_iff.1 hj).1
        rw [hcell j hjl, ← hu', e z hmem]
        simp [List.getD, hj]
      · cases hj
  exact hs.bytes
set_option maxRecDepth 100000 in
theorem bytes_trod {H : Type} {enc : TypeId × Value → H} {W : World} {base fuel : Nat} {spare : Nat → Bool} {held : Bool} {v : Value} {x : DataW H × List MemPlace} (hf : DataW.trod enc Tryd.prog W base spare held fuel 22 [v] = some x) : ∃ l, Bytes W v l := by
  rcases open_ints Tryd.underlying22 Tryd.underlying5 (by kernel_rfl) hf with ⟨hcs, _⟩ | ⟨x, n, c, zs, hcs, _, hl, hm, hz, _, hcell, hwz⟩
  · obtain rfl : v = .slice none 0 0 := by simpa using hcs
    exact ⟨[], bytes_nil W⟩
  · obtain rfl : v = .slice (some x) n c := by simpa using hcs
    exact bytes_of_open hl hm (by rw [hz]; split <;> omega) hcell hwz
set_option maxRecDepth 100000 in
theorem open_bytes {H : Type} {enc : TypeId × Value → H} {W : World} {base : Nat} {v : Value} {d : DataW H} {p : List MemPlace} (hv : Value.okWide Tryd.prog W .any base 22 v)
    (h : DataW.Trod enc Tryd.prog W 0 (fun _ => true) true 22 v d p) : ∃ l, Bytes W v l := by
  obtain ⟨a0, n, c, rfl⟩ := okWide_slice Tryd.underlying22 hv
  obtain ⟨fuel, hf⟩ := h
  exact bytes_trod (by simpa [Value.cells] using hf)

noncomputable def laidWorld (os : Os) : World :=
  { World.holding Tryd.prog os ⟨#[], #[], []⟩ with heap := (World.holding Tryd.prog os ⟨#[], #[], []⟩).heap.modify 0 fun
      | .cells _ t frozen => .cells #[.int .u32 0, .int .u32 498536548, .int .u32 997073096, .int .u32 651767980, .int .u32 1994146192, .int .u32 1802195444, .int .u32 1303535960, .int .u32 1342533948, .int .u32 3988292384, .int .u32 4027552580, .int .u32 3604390888, .int .u32 3412177804, .int .u32 2607071920, .int .u32 2262029012, .int .u32 2685067896, .int .u32 3183342108] t frozen
      | o => o }
end Go.Proofs.YtciolppoanfiaaaDoor
