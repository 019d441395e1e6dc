/- Comparing a program's node with the document's: sixteen numbers; the plain fields. -/
import Derived.Test.YtbgdepaffgeinaaElRef3
namespace Go.Proofs.Ytbgdepaffgeinaa
open Go.RowKit
set_option maxRecDepth 100000 in
set_option maxHeartbeats 3200000 in
theorem rlists_any (A : Option Addr) (c lo hi : Nat) (xs : List Nat) (w : World) (hs : Sl w lo hi 1 A 16 c (xs.map uv)) {U : Array Value} (hU : (xs.map uv).toArray = U) :
    Calls Try.prog 69 #[.slice A 16 c, .agg U] w fun e w' => e = .returned (.bool true) ∧ Below w.heap.size w w' := by
  have hl : xs.length = 16 := by have := hs.len; rw [List.length_map] at this; omega
  have hcap := hs.cap
  have hmax := hs.max
  have HB := Lib.hid (Blk.new w 96 U)
  have HU := Lib.hid hU
  have HS := Lib.hid (hs.alloc (by decide) (.cells U 96))
  have HL := Lib.hid hl
  clear hs hl hU
  go_enter Try.func69, Try.ntmps69
  go_wp2_with fail
  go_loopw [5] (fun ii wr => ∃ k : Nat, k ≤ 16 ∧ ii = .int .i64 k ∧ Below (w.heap.size + 1) (w.alloc (.cells U 96)) wr) (fun ii _ => 16 - (intOf ii).toNat)
  case atStart => exact ⟨0, Nat.zero_le _, rfl, Below.refl _ _⟩
  case round =>
    obtain ⟨k, hk, rfl, hb⟩ := hrel
    by_cases hkn : k < 16
    · have hkn' : (k : Int) < (16 : Int) := by omega
      have hb' : Below (w.alloc (.cells U 96)).heap.size (w.alloc (.cells U 96)) wr := by simpa using hb
      obtain ⟨ad, u, rfl, hx, z0⟩ := (HS.out.after (by decide) hb').nth hkn
      have z1 : wr.cell? ⟨w.heap.size, k, none⟩ = some u := by
        rw [(HB.out.after hb').cell, ← HU.out, List.getElem?_toArray]; exact hx
      obtain ⟨z, -, rfl⟩ : ∃ z, xs[k]? = some z ∧ Value.int .u64 (z : Int) = u := by
        rw [List.getElem?_map] at hx
        obtain ⟨z, h1, h2⟩ := Option.map_eq_some_iff.1 hx
        exact ⟨z, h1, h2⟩
      clear hx hb'
      have HBB := Lib.hid hb
      clear hb
      go_wp2
      go_quiet (fail)
      go_wp2
      go_roundw
      case rel => exact ⟨k + 1, by omega, by first | rfl | go_num, below_drewN HBB.out _⟩
      case measure => simp [intOf]; omega
    · obtain rfl : k = 16 := by omega
      have HBB := Lib.hid hb
      clear hb
      go_wp2
      go_ret
      exact ⟨rfl, ((Below.refl _ w).alloc (Nat.le_refl _) _).trans (HBB.out.mono (by omega))⟩
set_option maxRecDepth 100000 in
set_option maxHeartbeats 3200000 in
/-- the plain fields and who said yes -/
theorem rsameN_any {H : Nat} {S : Nat → Prop} {g : Nat} {q : RQ} {x : ND} (A : Option Addr) (c lo hi : Nat) (w : World) (h : RN H w S g q x) (hs : Sl w lo hi 1 A x.yes.length c (x.yes.map iv)) :
    Calls Try.prog 68 #[.int .i64 x.me, .int .i64 x.vote, .int .i64 x.role, .int .i64 x.lead, .slice A x.yes.length c, .int .u64 (x.term : Int), .int .u64 0, .bool x.heard, .pointer (some ⟨g, 0, none⟩)] w fun e w' => e = .returned (.bool true) ∧ Below w.heap.size w w' := by
  have x0 : w.cell? ⟨g, 0, none⟩ = some (.int .i64 x.me) := h.c rfl
  have x1 : w.cell? ⟨g, 1, none⟩ = some (.int .i64 x.vote) := h.c rfl
  have x2 : w.cell? ⟨g, 2, none⟩ = some (.int .i64 x.role) := h.c rfl
  have x3 : w.cell? ⟨g, 3, none⟩ = some (.int .i64 x.lead) := h.c rfl
  have x5 : w.cell? ⟨g, 5, none⟩ = some (.slice q.yA x.yes.length q.yc) := h.c rfl
  have x6 : w.cell? ⟨g, 6, none⟩ = some (.int .u64 (x.term : Int)) := h.c rfl
  have x7 : w.cell? ⟨g, 7, none⟩ = some (.int .u64 0) := h.c rfl
  have x11 : w.cell? ⟨g, 11, none⟩ = some (.bool x.heard) := h.c rfl
  have HN := Lib.hid (rnumbers_any A x.yes.length c lo hi x.yes q.yA q.yc 0 w.heap.size w hs h.yes.1)
  clear h hs
  go_enter Try.func68, Try.ntmps68
  go_wp2_with fail
  refine HN.out.mono ?_
  rintro e w1 ⟨rfl, hb1⟩
  go_wp2
  go_ret
  exact ⟨rfl, hb1⟩
end Go.Proofs.Ytbgdepaffgeinaa
