import Derived.Test.YtciolppoanfiaaaDoorWGrow
namespace Go.Proofs.YtciolppoanfiaaaDoor
open Go.RowKit

/-- The cells of a list of byte slices: slice values, each of which reads as its list. -/
def Rows (w : World) (vs : List Value) (ls : List (List UInt8)) : Prop :=
  vs.length = ls.length ∧ ∀ (i : Nat) v l, vs[i]? = some v → ls[i]? = some l → ∃ A c lo hi, v = .slice A l.length c ∧ Sl w lo hi 1 A l.length c (l.map bv)
theorem Rows.after {w w' : World} {vs : List Value} {ls : List (List UInt8)} (h : Rows w vs ls) (hb : Below w.heap.size w w') : Rows w' vs ls :=
  ⟨h.1, fun i v l hv hl => by
    obtain ⟨A, c, lo, hi, e, hs⟩ := h.2 i v l hv hl
    exact ⟨A, c, lo, hi, e, hs.after (by decide) hb⟩⟩
def total (ls : List (List UInt8)) : Nat := ls.flatten.length
theorem total_take (ls : List (List UInt8)) (k : Nat) (l : List UInt8) (h : ls[k]? = some l) : total (ls.take (k + 1)) = total (ls.take k) + l.length := by
  obtain ⟨h1, h2⟩ := List.getElem?_eq_some_iff.1 h
  unfold total
  rw [List.take_succ_eq_append_getElem h1, List.flatten_append]
  simp [h2]
theorem total_le (ls : List (List UInt8)) (k : Nat) : total (ls.take k) ≤ total ls := by
  unfold total
  conv => rhs; rw [← List.take_append_drop k ls, List.flatten_append, List.length_append]
  omega

set_option maxRecDepth 100000 in
set_option maxHeartbeats 800000 in
theorem concat_any (A : Option Addr) (n c lo hi : Nat) (vs : List Value) (ls : List (List UInt8)) (w : World) (ha : Sl w lo hi 1 A n c vs) (hr : Rows w vs ls) (ht : total ls ≤ 1000000) (hn : n ≤ 1000000) :
    Calls Tryd.prog 47 #[.slice A n c] w fun e w' => ∃ v, e = .returned v ∧ w'.ownsRow w.heap.size 5 1 v (total ls) (ls.flatten.map bv) ∧ Below w.heap.size w w' := by
  obtain ⟨i0, hi0, hz0, hz1, hz2⟩ := info_parts u8_info
  have hlen : vs.length = n := by simpa using ha.len
  have hlen2 : ls.length = n := by rw [← hr.1, hlen]
  have Hlen := Lib.hid hlen
  have Hlen2 := Lib.hid hlen2
  clear hlen hlen2
  go_enter Tryd.func47, Tryd.ntmps47
  go_wp2
  go_loop [3, 11] (fun s i => ∃ k : Nat, k ≤ n ∧ i = .int .i64 k ∧ s = .int .i64 (total (ls.take k) : Nat)) (fun _ i => n - (intOf i).toNat)
  case atStart => exact ⟨0, Nat.zero_le _, rfl, rfl⟩
  case round =>
    obtain ⟨k, hk, rfl, rfl⟩ := hrel
    by_cases hlt : k < n
    · obtain ⟨ad, v, rfl, hv, hcv⟩ := ha.nth hlt
      obtain ⟨l, hl⟩ : ∃ l, ls[k]? = some l := ⟨_, List.getElem?_eq_getElem (by have := Hlen2.out; omega)⟩
      obtain ⟨B, d, lo', hi', rfl, hs⟩ := hr.2 k v l hv hl
      have h1 := total_take ls k l hl
      have h2 := total_le ls (k + 1)
      have h3 : total (ls.take k) + l.length ≤ 1000000 := by omega
      have Hv := Lib.hid hv
      have Hl := Lib.hid hl
      have H1 := Lib.hid h1
      clear hv hl h1 h2 ha hr
      generalize total (ls.take k) = t at h3 H1
      go_wp2
      go_round
      case rel => exact ⟨k + 1, by omega, by go_num, by rw [H1.out]; go_num⟩
      case measure => simp [intOf]; omega
    · have hkn : k = n := by omega
      subst hkn
      have Hs : Hid (total (ls.take k) = total ls) := by rw [List.take_of_length_le (by have := Hlen2.out; omega)]; rfl
      rw [Hs.out]
      clear Hs
      have hgrow := grow_any (total ls) w ht
      obtain ⟨T, hT⟩ : ∃ T, total ls = T := ⟨_, rfl⟩
      rw [hT] at ht hgrow ⊢
      have HT := Lib.hid hT
      clear hT
      go_wp2_with (go_at_call 76; refine hgrow.mono ?_; rintro e w1 ⟨v1, rfl, hown1, hb1⟩)
      go_loopw [6, 27] (fun v i wr => ∃ j : Nat, j ≤ k ∧ i = .int .i64 j ∧ wr.ownsRow w.heap.size 5 1 v (total (ls.take j)) ((ls.take j).flatten.map bv) ∧ Below w.heap.size w wr) (fun _ i _ => k - (intOf i).toNat)
      case atStart => exact ⟨0, Nat.zero_le _, rfl, hown1, hb1⟩
      case round =>
        obtain ⟨j, hj, rfl, hown, hb⟩ := hrel
        clear hown1 hgrow
        by_cases hjlt : j < k
        · obtain ⟨ad, v, rfl, hv, hcv⟩ := (ha.after (by decide) hb).nth hjlt
          obtain ⟨l, hl⟩ : ∃ l, ls[j]? = some l := ⟨_, List.getElem?_eq_getElem (by have := Hlen2.out; omega)⟩
          obtain ⟨B, d, lo', hi', rfl, hs⟩ := (hr.after hb).2 j v l hv hl
          have h1 := total_take ls j l hl
          have h2 := total_le ls (j + 1)
          have h3 : total (ls.take j) + l.length ≤ 1000000 := by have := HT.out; omega
          have Hf : Hid ((ls.take (j + 1)).flatten.map bv = (ls.take j).flatten.map bv ++ l.map bv) := by
            obtain ⟨h1, h2⟩ := List.getElem?_eq_some_iff.1 hl
            show _ = _
            rw [List.take_succ_eq_append_getElem h1, List.flatten_append, List.map_append, h2]
            simp
          have H1 := Lib.hid h1
          clear hv hl h1 h2 ha hr
          have hsz := hb.size
          generalize total (ls.take j) = t at h3 H1 hown
          generalize (ls.take j).flatten.map bv = xs at hown Hf
          go_wp2_with (at_builtin; refine wpList_app _ rfl (.tmp 31) (.tmp 32) 22 rfl w.heap.size 5 i0 _ 1 1 Tryd.underlying22 hi0 hz0 hz1 hz2 rfl (by omega) u6 t xs rfl hown lo' hi' B l.length d (l.map bv) rfl hs (bv_one l) (by simp only [maxLen]; omega) (by omega) hsz ?_; intro v2 w2 hown2 hg2 hat2)
          go_roundw
          case rel => exact ⟨j + 1, by omega, by go_num, by rw [H1.out, Hf.out]; exact hown2, hb.grown hg2 hsz (fun g e => (hown.lt g e).1)⟩
          case measure => simp [intOf]; omega
        · go_wp2
          go_ret
          have hjk : j = k := by omega
          subst hjk
          rw [List.take_of_length_le (by have := Hlen2.out; omega)] at hown
          exact ⟨_, rfl, by rw [← HT.out]; exact hown, hb⟩
end Go.Proofs.YtciolppoanfiaaaDoor
