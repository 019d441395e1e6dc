import Derived.Test.YtciolppoanfiaaaDoorZBase
import Derived.Test.YtciolppoanfiaaaDoorWSum
import Derived.WalkSpells
namespace Go.Proofs.YtciolppoanfiaaaDoor
open Go.RowKit

theorem u8_info : (Tryd.prog.info? 5).map (fun i => (i.zero, i.size, i.bytes)) = some (some (.int .u8 0), 1, 1) := by kernel_rfl
theorem bv_one (xs : List UInt8) : ∀ u ∈ xs.map bv, u.oneCell' = true := by
  intro u hu
  obtain ⟨b, _, rfl⟩ := List.mem_map.1 hu
  rfl

/- A cut of a slice, its address behind a name: equations for the walk. -/
section
variable {P : Program} (t e : TypeId) (i : TypeInfo) (size : Nat) (ht : P.underlying t = some (.slice e)) (hi : P.info? e = some i) (hs : i.size = size)
include ht hi hs
theorem cut_lh (A : Option Addr) (m c : Nat) (l h : Int) (n k : Nat) (h0 : 0 ≤ l) (h1 : l ≤ h) (h2 : h ≤ c) (hn : h.toNat - l.toNat = n) (hk : c - l.toNat = k) :
    ∃ A', (0 < n → A' = A.map (·.add (l.toNat * size))) ∧ ∀ W, (Instr.sliceAt t (.slice A m c) (some (.int .i64 l)) (some (.int .i64 h)) none).run P W = .ok (.slice A' n k) W := by
  have he : P.elem t = e := by simp [Program.elem, ht]
  have ht' : P.underlying t = some (.slice (P.elem t)) := by rw [he]; exact ht
  refine ⟨if c = l.toNat then A else A.map (·.add (l.toNat * size)), fun hp => by rw [if_neg (by omega)], fun W => ?_⟩
  rw [run_sliceAt_slice W t _ _ _ _ ht', run_slice_lh W t A m c ht' .i64 .i64 l h h0 h1 h2, he]
  simp [sizeOf, typeInfo, hi, hs, sliced, hn, hk]
theorem cut_l (A : Option Addr) (m c : Nat) (l : Int) (n k : Nat) (h0 : 0 ≤ l) (h1 : l ≤ m) (hmc : m ≤ c) (hn : m - l.toNat = n) (hk : c - l.toNat = k) :
    ∃ A', (0 < n → A' = A.map (·.add (l.toNat * size))) ∧ ∀ W, (Instr.sliceAt t (.slice A m c) (some (.int .i64 l)) none none).run P W = .ok (.slice A' n k) W := by
  have he : P.elem t = e := by simp [Program.elem, ht]
  have ht' : P.underlying t = some (.slice (P.elem t)) := by rw [he]; exact ht
  refine ⟨if c = l.toNat then A else A.map (·.add (l.toNat * size)), fun hp => by rw [if_neg (by omega)], fun W => ?_⟩
  rw [run_sliceAt_slice W t _ _ _ _ ht', run_slice_l W t A m c ht' .i64 l h0 h1, he]
  simp [sizeOf, typeInfo, hi, hs, sliced, hn, hk]
omit hs in
theorem cut_h (A : Option Addr) (m c : Nat) (h : Int) (n : Nat) (h0 : 0 ≤ h) (h2 : h ≤ c) (hn : h.toNat = n) :
    ∃ A', (0 < n → A' = A) ∧ ∀ W, (Instr.sliceAt t (.slice A m c) none (some (.int .i64 h)) none).run P W = .ok (.slice A' n c) W := by
  have he : P.elem t = e := by simp [Program.elem, ht]
  have ht' : P.underlying t = some (.slice (P.elem t)) := by rw [he]; exact ht
  refine ⟨A, fun _ => rfl, fun W => ?_⟩
  rw [run_sliceAt_slice W t _ _ _ _ ht', run_slice_h W t A m c ht' .i64 h h0 h2, he]
  cases A <;> simp [sizeOf, typeInfo, hi, sliced, hn, Addr.add]
end

set_option maxRecDepth 100000 in
set_option maxHeartbeats 400000 in
theorem clone_any (A : Option Addr) (n c lo hi : Nat) (xs : List UInt8) (w : World) (ha : Sl w lo hi 1 A n c (xs.map bv)) (hn : n ≤ 1000000) :
    Calls Tryd.prog 52 #[.slice A n c] w fun e w' => ∃ v, e = .returned v ∧ w'.ownsRow w.heap.size 5 1 v n (xs.map bv) ∧ Below w.heap.size w w' := by
  obtain ⟨i0, hi0, hz0, hz1, hz2⟩ := info_parts u8_info
  have heq := fun W => Lib.run_eql_slice_nil (P := Tryd.prog) W 22 5 A n c 0 0 Tryd.underlying22
  rcases A with _ | ad
  · obtain ⟨rfl, hx⟩ := ha.nilA
    have hx : xs = [] := by simpa using hx
    subst hx
    clear ha
    go_enter Tryd.func52, Tryd.ntmps52
    go_wp2
    go_ret
    exact ⟨_, rfl, World.ownsRow_nil _ _ _ _, Below.refl _ _⟩
  · go_enter Tryd.func52, Tryd.ntmps52
    go_wp2_with (at_builtin; refine wpList_app _ rfl (.tmp 5) (.tmp 6) 22 rfl w.heap.size 5 i0 _ 1 1 Tryd.underlying22 hi0 hz0 hz1 hz2 rfl (by omega) (.slice (some ⟨w.heap.size, 0, none⟩) 0 0) 0 [] rfl (World.ownsRow_made _ #[] 0 (Nat.le_refl _) (by simp [maxLen]) (by simp)) lo hi (some ad) n c (xs.map bv) rfl (ha.alloc (by decide) _) (bv_one xs) (by simp only [maxLen]; omega) (by omega) (by simp) ?_; intro v1 w1 hown1 hg1 hat1)
    go_ret
    exact ⟨v1, rfl, by simpa using hown1, ((Below.refl _ w).alloc (Nat.le_refl _) _).grown hg1 (by simp) (by intro k hk; simp [Value.ownBlock] at hk; omega)⟩
end Go.Proofs.YtciolppoanfiaaaDoor
