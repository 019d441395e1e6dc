/- slices.Index, Contains, Clone, IndexFunc, DeleteFunc at integers; the others. -/
import Derived.Test.YtbgdepaffgeinaaElMem
namespace Go.Proofs.Ytbgdepaffgeinaa
open Go.RowKit
theorem int_info : (Try.prog.info? 3).map (fun i => (i.zero, i.size, i.bytes)) = some (some (.int .i64 0), 1, 8) := by kernel_rfl
theorem int_zero (w : World) : (zeroValue 3).run Try.prog w = .ok (.int .i64 0) w := by kernel_rfl
theorem int_z1 (n : Nat) : ∀ v ∈ (Builtin.zeroCells (Value.int .i64 0).cells n).toList, v.oneCell' = true := by
  intro v hv
  simp only [Builtin.zeroCells, Array.toList_map, List.mem_map] at hv
  obtain ⟨i, -, rfl⟩ := hv
  have h1 : i % 1 = 0 := by omega
  show (#[Value.int .i64 0][i % 1]!).oneCell' = true
  rw [h1]; rfl
theorem ilen {w : World} {lo hi n c : Nat} {A : Option Addr} {xs : List Int} (h : Sl w lo hi 1 A n c (xs.map iv)) : xs.length = n := by have := h.len; rw [List.length_map] at this; omega
theorem Sl.int {w : World} {lo hi n c k : Nat} {A : Option Addr} {xs : List Int} (h : Sl w lo hi 1 A n c (xs.map iv)) (hk : k < n) :
    ∃ ad i, A = some ad ∧ xs[k]? = some i ∧ w.cell? (ad.add k) = some (.int .i64 i) := by
  obtain ⟨ad, u, e, hx, hc⟩ := h.nth hk
  rw [List.getElem?_map] at hx
  match hb : xs[k]?, hx with
  | some b, hx => exact ⟨ad, b, e, rfl, by rw [hc]; simpa [iv] using hx.symm⟩
theorem own_intSl {w : World} {base n : Nat} {v : Value} {xs : List Int} (h : w.ownsRow base 3 1 v n (xs.map iv)) : ∃ A c, v = .slice A n c ∧ Sl w base w.heap.size 1 A n c (xs.map iv) := own_sl h
set_option maxRecDepth 100000 in
set_option maxHeartbeats 800000 in
theorem index_any (A : Option Addr) (n c lo hi : Nat) (xs : List Int) (v : Int) (w : World) (hs : Sl w lo hi 1 A n c (xs.map iv)) :
    Calls Try.prog 79 #[.slice A n c, .int .i64 v] w fun e w' => w = w' ∧ ((e = .returned (.int .i64 (-1)) ∧ xs.contains v = false) ∨ ∃ k : Nat, e = .returned (.int .i64 (k : Int)) ∧ xs.contains v = true) := by
  have hlen := ilen hs
  have hmax := hs.max
  have hcap := hs.cap
  have HL := Lib.hid hlen
  clear hlen
  go_enter Try.func79, Try.ntmps79
  go_wp2
  go_loopw [5, 8] (fun _ i wr => ∃ k : Nat, k ≤ n ∧ i = .int .i64 k ∧ w = wr ∧ ∀ j t, j < k → xs[j]? = some t → t ≠ v) (fun _ i _ => n - (intOf i).toNat)
  case atStart => exact ⟨0, Nat.zero_le _, rfl, rfl, fun j t hj => absurd hj (Nat.not_lt_zero _)⟩
  case round =>
    obtain ⟨k, hk, rfl, rfl, hall⟩ := hrel
    have HA := Lib.hid hall
    clear hall
    by_cases hlt : k < n
    · obtain ⟨ad, t, rfl, ht, x0⟩ := hs.int hlt
      have HT := Lib.hid ht
      clear ht
      by_cases hpt : v = t
      · have heq : (v == t) = true := by simp [hpt]
        go_wp2
        go_ret
        exact ⟨rfl, .inr ⟨k, by first | rfl | trivial, by rw [List.contains_iff_mem]; rw [hpt]; exact List.mem_of_getElem? HT.out⟩⟩
      · have heq : (v == t) = false := by simp [hpt]
        go_wp2
        go_roundw
        case rel =>
          refine ⟨k + 1, by omega, by first | rfl | go_num, by first | rfl | trivial, fun j u hj hu => ?_⟩
          by_cases e : j = k
          · subst e
            rw [HT.out] at hu
            injection hu with hu
            rw [← hu]; exact fun h => hpt h.symm
          · exact HA.out j u (by omega) hu
        case measure => simp [intOf]; omega
    · obtain rfl : k = n := by omega
      go_wp2
      go_ret
      refine ⟨rfl, .inl ⟨by first | rfl | trivial, ?_⟩⟩
      rw [Bool.eq_false_iff]
      intro h
      rw [List.contains_iff_mem] at h
      obtain ⟨j, hj⟩ := List.getElem?_of_mem h
      exact HA.out j v (by rw [← HL.out]; exact (List.getElem?_eq_some_iff.1 hj).1) hj rfl
set_option maxRecDepth 100000 in
theorem contains_any (A : Option Addr) (n c lo hi : Nat) (xs : List Int) (v : Int) (w : World) (hs : Sl w lo hi 1 A n c (xs.map iv)) {b : Bool} (hb : xs.contains v = b) :
    Calls Try.prog 61 #[.slice A n c, .int .i64 v] w fun e w' => e = .returned (.bool b) ∧ w = w' := by
  have hI := index_any A n c lo hi xs v w hs
  rw [hb] at hI
  clear hs hb
  go_enter Try.func61, Try.ntmps61
  go_wp2_with fail
  refine hI.mono ?_
  rintro e _ ⟨rfl, ⟨rfl, rfl⟩ | ⟨k, rfl, rfl⟩⟩
  · go_wp2
    go_ret
    exact ⟨rfl, rfl⟩
  · have h0 : (0 : Int) ≤ (k : Int) := by omega
    go_wp2
    go_ret
    exact ⟨by first | rfl | simp, rfl⟩
set_option maxRecDepth 100000 in
set_option maxHeartbeats 400000 in
theorem iclone_any (A : Option Addr) (n c lo hi : Nat) (xs : List Int) (w : World) (ha : Sl w lo hi 1 A n c (xs.map iv)) (hn : n ≤ 10000) :
    Calls Try.prog 59 #[.slice A n c] w fun e w' => ∃ v, e = .returned v ∧ w'.ownsRow w.heap.size 3 1 v n (xs.map iv) ∧ Below w.heap.size w w' := by
  obtain ⟨i0, hi0, hz0, hz1, hz2⟩ := info_parts int_info
  have heq := fun W => Lib.run_eql_slice_nil (P := Try.prog) W 51 3 A n c 0 0 Try.underlying51
  rcases A with _ | ad
  · obtain ⟨rfl, hx⟩ := ha.nilA
    have hx : xs = [] := by simpa using hx
    subst hx
    clear ha
    go_enter Try.func59, Try.ntmps59
    go_wp2
    go_ret
    exact ⟨_, rfl, World.ownsRow_nil _ _ _ _, Below.refl _ _⟩
  · go_enter Try.func59, Try.ntmps59
    go_wp2_with (at_builtin; refine wpList_app _ rfl (.tmp 5) (.tmp 6) 51 rfl w.heap.size 3 i0 _ 1 8 Try.underlying51 hi0 hz0 hz1 hz2 rfl (by omega) (.slice (some ⟨w.heap.size, 0, none⟩) 0 0) 0 [] rfl (World.ownsRow_made _ #[] 0 (Nat.le_refl _) (by simp [maxLen]) (by simp)) lo hi (some ad) n c (xs.map iv) rfl (ha.alloc (by decide) _) (iv_one xs) (by simp only [maxLen]; omega) (by omega) (by simp) ?_; intro v1 w1 hown1 hg1 hat1)
    go_ret
    exact ⟨v1, rfl, by simpa using hown1, ((Below.refl _ w).alloc (Nat.le_refl _) _).grown hg1 (by simp) (by intro k hk; simp [Value.ownBlock] at hk; omega)⟩
end Go.Proofs.Ytbgdepaffgeinaa
