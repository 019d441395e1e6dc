/- Clone, Grow and Concat at a list of entries. -/
import Derived.Test.YtbgdepaffgeinaaEzLast
import Derived.Deep.DeepMust
import Derived.WalkSpells
import Derived.Lib.AppendZeros
namespace Go.Proofs.Ytbgdepaffgeinaa
open Go.RowKit

theorem en_info : (Try.prog.info? 35).map (fun i => (i.zero, i.size, i.bytes)) = some (some (.agg #[.int .u64 0, .int .i64 0, .slice none 0 0]), 3, 40) := by kernel_rfl
theorem ec_one (xs : List Ent) : ∀ u ∈ ecells xs, u.oneCell' = true := by
  induction xs with
  | nil => intro u hu; cases hu
  | cons e xs ih =>
    intro u hu
    simp only [ecells, List.mem_cons] at hu
    rcases hu with rfl | rfl | rfl | hu
    · rfl
    · rfl
    · rfl
    · exact ih u hu
theorem ecells_nil {xs : List Ent} (h : ecells xs = []) : xs = [] := by
  cases xs with
  | nil => rfl
  | cons e xs => simp [ecells] at h

/- A cut of a slice, its address behind a name: equations for the walk. -/
section
variable {P : Program} (t e : TypeId) (i : TypeInfo) (size : Nat) (ht : P.underlying t = some (.slice e)) (hi : P.info? e = some i) (hs : i.size = size)
include ht hi hs
theorem cut_lh (kk jj : IntKind) (A : Option Addr) (m c : Nat) (l h : Int) (n k : Nat) (h0 : 0 ≤ l) (h1 : l ≤ h) (h2 : h ≤ c) (hn : h.toNat - l.toNat = n) (hk : c - l.toNat = k) :
    ∃ A', (0 < n → A' = A.map (·.add (l.toNat * size))) ∧ ∀ W, (Instr.sliceAt t (.slice A m c) (some (.int kk l)) (some (.int jj h)) none).run P W = .ok (.slice A' n k) W := by
  have he : P.elem t = e := by simp [Program.elem, ht]
  have ht' : P.underlying t = some (.slice (P.elem t)) := by rw [he]; exact ht
  refine ⟨if c = l.toNat then A else A.map (·.add (l.toNat * size)), fun hp => by rw [if_neg (by omega)], fun W => ?_⟩
  rw [run_sliceAt_slice W t _ _ _ _ ht', run_slice_lh W t A m c ht' kk jj l h h0 h1 h2, he]
  simp [sizeOf, typeInfo, hi, hs, sliced, hn, hk]
theorem cut_l (kk : IntKind) (A : Option Addr) (m c : Nat) (l : Int) (n k : Nat) (h0 : 0 ≤ l) (h1 : l ≤ m) (hmc : m ≤ c) (hn : m - l.toNat = n) (hk : c - l.toNat = k) :
    ∃ A', (0 < n → A' = A.map (·.add (l.toNat * size))) ∧ ∀ W, (Instr.sliceAt t (.slice A m c) (some (.int kk l)) none none).run P W = .ok (.slice A' n k) W := by
  have he : P.elem t = e := by simp [Program.elem, ht]
  have ht' : P.underlying t = some (.slice (P.elem t)) := by rw [he]; exact ht
  refine ⟨if c = l.toNat then A else A.map (·.add (l.toNat * size)), fun hp => by rw [if_neg (by omega)], fun W => ?_⟩
  rw [run_sliceAt_slice W t _ _ _ _ ht', run_slice_l W t A m c ht' kk l h0 h1, he]
  simp [sizeOf, typeInfo, hi, hs, sliced, hn, hk]
omit hs in
theorem cut_h (kk : IntKind) (A : Option Addr) (m c : Nat) (h : Int) (n : Nat) (h0 : 0 ≤ h) (h2 : h ≤ c) (hn : h.toNat = n) :
    ∃ A', (0 < n → A' = A) ∧ ∀ W, (Instr.sliceAt t (.slice A m c) none (some (.int kk h)) none).run P W = .ok (.slice A' n c) W := by
  have he : P.elem t = e := by simp [Program.elem, ht]
  have ht' : P.underlying t = some (.slice (P.elem t)) := by rw [he]; exact ht
  refine ⟨A, fun _ => rfl, fun W => ?_⟩
  rw [run_sliceAt_slice W t _ _ _ _ ht', run_slice_h W t A m c ht' kk h h0 h2, he]
  cases A <;> simp [sizeOf, typeInfo, hi, sliced, hn, Addr.add]
end

set_option maxRecDepth 100000 in
set_option maxHeartbeats 400000 in
theorem eclone_any (A : Option Addr) (n c lo hi : Nat) (xs : List Ent) (w : World) (ha : Sl w lo hi 3 A n c (ecells xs)) (hn : n ≤ 10000) :
    Calls Try.prog 75 #[.slice A n c] w fun e w' => ∃ v, e = .returned v ∧ w'.ownsRow w.heap.size 35 3 v n (ecells xs) ∧ Below w.heap.size w w' := by
  obtain ⟨i0, hi0, hz0, hz1, hz2⟩ := info_parts en_info
  have heq := fun W => Lib.run_eql_slice_nil (P := Try.prog) W 23 35 A n c 0 0 Try.underlying23
  rcases A with _ | ad
  · obtain ⟨rfl, hx⟩ := ha.nilA
    have hx : xs = [] := ecells_nil hx
    subst hx
    clear ha
    go_enter Try.func75, Try.ntmps75
    go_wp2
    go_ret
    exact ⟨_, rfl, World.ownsRow_nil _ _ _ _, Below.refl _ _⟩
  · go_enter Try.func75, Try.ntmps75
    go_wp2_with (at_builtin; refine wpList_app _ rfl (.tmp 5) (.tmp 6) 23 rfl w.heap.size 35 i0 _ 3 40 Try.underlying23 hi0 hz0 hz1 hz2 rfl (by omega) (.slice (some ⟨w.heap.size, 0, none⟩) 0 0) 0 [] rfl (World.ownsRow_made _ #[] 0 (Nat.le_refl _) (by simp [maxLen]) (by simp)) lo hi (some ad) n c (ecells xs) rfl (ha.alloc (by decide) _) (ec_one xs) (by simp only [maxLen]; omega) (by omega) (by simp) ?_; intro v1 w1 hown1 hg1 hat1)
    go_ret
    exact ⟨v1, rfl, by simpa using hown1, ((Below.refl _ w).alloc (Nat.le_refl _) _).grown hg1 (by simp) (by intro k hk; simp [Value.ownBlock] at hk; omega)⟩
set_option maxRecDepth 100000 in
set_option maxHeartbeats 400000 in
theorem egrow_any (n : Nat) (w : World) (hn : n ≤ 10000) :
    Calls Try.prog 77 #[.slice none 0 0, .int .i64 (n : Int)] w fun e w' => ∃ v, e = .returned v ∧ w'.ownsRow w.heap.size 35 3 v 0 [] ∧ Below w.heap.size w w' := by
  obtain ⟨i0, hi0, hz0, hz1, hz2⟩ := info_parts en_info
  have hcap := grownCap_le_maxLen w n 0 35 (by simp only [maxLen]; omega)
  have hge := grownCap_ge w n 0 35
  by_cases h0 : n = 0
  · subst h0
    go_enter Try.func77, Try.ntmps77
    go_wp2
    go_ret
    exact ⟨_, rfl, World.ownsRow_nil _ _ _ _, Below.refl _ _⟩
  · have h1 : 0 < n := by omega
    have h2 : (0 : Int) < n := by omega
    go_enter Try.func77, Try.ntmps77
    go_wp2_with (at_builtin; refine Lib.wpList_append_run _ rfl (.tmp 20) (.tmp 21) _ _ rfl _ _ rfl rfl _ _ (Lib.run_append_nil_zeros _ _ _ _ _ i0 (.agg #[.int .u64 0, .int .i64 0, .slice none 0 0]) .i64 .i64 Try.underlying23 Try.underlying3 hi0 hz0 n h1 (by rw [hz1]; decide) (by omega) (by rw [hz2]; omega)) ?_)
    go_ret
    refine ⟨_, rfl, ?_, ((Below.refl _ w).alloc (Nat.le_refl _) _).drew⟩
    have hm : grownCap w n 0 35 ≤ maxLen := hcap
    exact World.ownsRow_made w _ (grownCap w n 0 35) (Nat.le_refl _) hm (by simp only [Array.size_append, size_zeroCells]; simp; omega)
end Go.Proofs.Ytbgdepaffgeinaa
