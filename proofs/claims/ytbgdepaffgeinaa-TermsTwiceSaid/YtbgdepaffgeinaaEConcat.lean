import Derived.Test.YtbgdepaffgeinaaEClone
namespace Go.Proofs.Ytbgdepaffgeinaa
open Go.RowKit

/-- The cells of a list of byte slices: slice values, each of which reads as its list. -/
def ERows (w : World) (vs : List Value) (ls : List (List Ent)) : Prop :=
  vs.length = ls.length ∧ ∀ (i : Nat) v l, vs[i]? = some v → ls[i]? = some l → ∃ A c lo hi, v = .slice A l.length c ∧ Sl w lo hi 3 A l.length c (ecells l)
theorem ERows.after {w w' : World} {vs : List Value} {ls : List (List Ent)} (h : ERows w vs ls) (hb : Below w.heap.size w w') : ERows w' vs ls :=
  ⟨h.1, fun i v l hv hl => by
    obtain ⟨A, c, lo, hi, e, hs⟩ := h.2 i v l hv hl
    exact ⟨A, c, lo, hi, e, hs.after (by decide) hb⟩⟩
def etotal (ls : List (List Ent)) : Nat := ls.flatten.length
theorem etotal_take (ls : List (List Ent)) (k : Nat) (l : List Ent) (h : ls[k]? = some l) : etotal (ls.take (k + 1)) = etotal (ls.take k) + l.length := by
  obtain ⟨h1, h2⟩ := List.getElem?_eq_some_iff.1 h
  unfold etotal
  rw [List.take_succ_eq_append_getElem h1, List.flatten_append]
  simp [h2]
theorem etotal_le (ls : List (List Ent)) (k : Nat) : etotal (ls.take k) ≤ etotal ls := by
  unfold etotal
  conv => rhs; rw [← List.take_append_drop k ls, List.flatten_append, List.length_append]
  omega

set_option maxRecDepth 100000 in
set_option maxHeartbeats 800000 in
theorem econcat_any (A : Option Addr) (n c lo hi : Nat) (vs : List Value) (ls : List (List Ent)) (w : World) (ha : Sl w lo hi 1 A n c vs) (hr : ERows w vs ls) (ht : etotal ls ≤ 10000) (hn : n ≤ 10000) :
    Calls Try.prog 55 #[.slice A n c] w fun e w' => ∃ v, e = .returned v ∧ w'.ownsRow w.heap.size 35 3 v (etotal ls) (ecells ls.flatten) ∧ Below w.heap.size w w' := by
  obtain ⟨i0, hi0, hz0, hz1, hz2⟩ := info_parts en_info
  have hlen : vs.length = n := by simpa using ha.len
  have hlen2 : ls.length = n := by rw [← hr.1, hlen]
  have Hlen := Lib.hid hlen
  have Hlen2 := Lib.hid hlen2
  clear hlen hlen2
  go_enter Try.func55, Try.ntmps55
  go_wp2
  go_loop [3, 11] (fun s i => ∃ k : Nat, k ≤ n ∧ i = .int .i64 k ∧ s = .int .i64 (etotal (ls.take k) : Nat)) (fun _ i => n - (intOf i).toNat)
  case atStart => exact ⟨0, Nat.zero_le _, rfl, rfl⟩
  case round =>
    obtain ⟨k, hk, rfl, rfl⟩ := hrel
    by_cases hlt : k < n
    · obtain ⟨ad, v, rfl, hv, hcv⟩ := ha.nth hlt
      obtain ⟨l, hl⟩ : ∃ l, ls[k]? = some l := ⟨_, List.getElem?_eq_getElem (by have := Hlen2.out; omega)⟩
      obtain ⟨B, d, lo', hi', rfl, hs⟩ := hr.2 k v l hv hl
      have h1 := etotal_take ls k l hl
      have h2 := etotal_le ls (k + 1)
      have h3 : etotal (ls.take k) + l.length ≤ 10000 := by omega
      have Hv := Lib.hid hv
      have Hl := Lib.hid hl
      have H1 := Lib.hid h1
      clear hv hl h1 h2 ha hr
      generalize etotal (ls.take k) = t at h3 H1
      go_wp2
      go_round
      case rel => exact ⟨k + 1, by omega, by go_num, by rw [H1.out]; go_num⟩
      case measure => simp [intOf]; omega
    · have hkn : k = n := by omega
      subst hkn
      have Hs : Hid (etotal (ls.take k) = etotal ls) := by rw [List.take_of_length_le (by have := Hlen2.out; omega)]; rfl
      rw [Hs.out]
      clear Hs
      have hgrow := egrow_any (etotal ls) w ht
      obtain ⟨T, hT⟩ : ∃ T, etotal ls = T := ⟨_, rfl⟩
      rw [hT] at ht hgrow ⊢
      have HT := Lib.hid hT
      clear hT
      go_wp2_with (go_at_call 77; refine hgrow.mono ?_; rintro e w1 ⟨v1, rfl, hown1, hb1⟩)
      go_loopw [6, 27] (fun v i wr => ∃ j : Nat, j ≤ k ∧ i = .int .i64 j ∧ wr.ownsRow w.heap.size 35 3 v (etotal (ls.take j)) (ecells (ls.take j).flatten) ∧ Below w.heap.size w wr) (fun _ i _ => k - (intOf i).toNat)
      case atStart => exact ⟨0, Nat.zero_le _, rfl, hown1, hb1⟩
      case round =>
        obtain ⟨j, hj, rfl, hown, hb⟩ := hrel
        clear hown1 hgrow
        by_cases hjlt : j < k
        · obtain ⟨ad, v, rfl, hv, hcv⟩ := (ha.after (by decide) hb).nth hjlt
          obtain ⟨l, hl⟩ : ∃ l, ls[j]? = some l := ⟨_, List.getElem?_eq_getElem (by have := Hlen2.out; omega)⟩
          obtain ⟨B, d, lo', hi', rfl, hs⟩ := (hr.after hb).2 j v l hv hl
          have h1 := etotal_take ls j l hl
          have h2 := etotal_le ls (j + 1)
          have h3 : etotal (ls.take j) + l.length ≤ 10000 := by have := HT.out; omega
          have Hf : Hid (ecells (ls.take (j + 1)).flatten = ecells (ls.take j).flatten ++ ecells l) := by
            obtain ⟨h1, h2⟩ := List.getElem?_eq_some_iff.1 hl
            show _ = _
            rw [List.take_succ_eq_append_getElem h1, List.flatten_append, ecells_append, h2]
            simp
          have H1 := Lib.hid h1
          clear hv hl h1 h2 ha hr
          have hsz := hb.size
          generalize etotal (ls.take j) = t at h3 H1 hown
          generalize ecells (ls.take j).flatten = xs at hown Hf
          go_wp2_with (at_builtin; refine wpList_app _ rfl (.tmp 31) (.tmp 32) 23 rfl w.heap.size 35 i0 _ 3 40 Try.underlying23 hi0 hz0 hz1 hz2 rfl (by omega) u6 t xs rfl hown lo' hi' B l.length d (ecells l) rfl hs (ec_one l) (by simp only [maxLen]; omega) (by omega) hsz ?_; intro v2 w2 hown2 hg2 hat2)
          go_roundw
          case rel => exact ⟨j + 1, by omega, by go_num, by rw [H1.out, Hf.out]; exact hown2, hb.grown hg2 hsz (fun g e => (hown.lt g e).1)⟩
          case measure => simp [intOf]; omega
        · go_wp2
          go_ret
          have hjk : j = k := by omega
          subst hjk
          rw [List.take_of_length_le (by have := Hlen2.out; omega)] at hown
          exact ⟨_, rfl, by rw [← HT.out]; exact hown, hb⟩
theorem erows2 {w : World} {A1 A2 : Option Addr} {n1 n2 c1 c2 lo1 hi1 lo2 hi2 : Nat} {l1 l2 : List Ent} (h1 : Sl w lo1 hi1 3 A1 n1 c1 (ecells l1)) (h2 : Sl w lo2 hi2 3 A2 n2 c2 (ecells l2)) : ERows w [.slice A1 n1 c1, .slice A2 n2 c2] [l1, l2] := by
  have e1 : n1 = l1.length := by have := h1.len; rw [ecells_len] at this; omega
  have e2 : n2 = l2.length := by have := h2.len; rw [ecells_len] at this; omega
  subst e1 e2
  refine ⟨rfl, fun i v l hv hl => ?_⟩
  match i, hv, hl with
  | 0, hv, hl =>
    simp at hv hl
    subst hv hl
    exact ⟨A1, c1, _, _, rfl, h1⟩
  | 1, hv, hl =>
    simp at hv hl
    subst hv hl
    exact ⟨A2, c2, _, _, rfl, h2⟩
  | i + 2, hv, hl => simp at hv
/-- two lists behind one another, the pair just built -/
theorem econcat2 {A1 A2 : Option Addr} {n1 n2 c1 c2 lo1 hi1 lo2 hi2 : Nat} {l1 l2 : List Ent} (w : World) (t : TypeId) (g : Nat) (h1 : Sl w lo1 hi1 3 A1 n1 c1 (ecells l1)) (h2 : Sl w lo2 hi2 3 A2 n2 c2 (ecells l2)) (hn1 : n1 ≤ 1000) (hn2 : n2 ≤ 1000) (hg : w.heap.size = g := by rfl) :
    Calls Try.prog 55 #[.slice (some ⟨g, 0, none⟩) 2 2] (w.alloc (.cells #[.slice A1 n1 c1, .slice A2 n2 c2] t)) fun e w' => ∃ A c, e = .returned (.slice A (n1 + n2) c) ∧ w'.ownsRow (w.heap.size + 1) 35 3 (.slice A (n1 + n2) c) (n1 + n2) (ecells (l1 ++ l2)) ∧ Below (w.alloc (.cells #[.slice A1 n1 c1, .slice A2 n2 c2] t)).heap.size (w.alloc (.cells #[.slice A1 n1 c1, .slice A2 n2 c2] t)) w' := by
  have e1 : n1 = l1.length := by have := h1.len; rw [ecells_len] at this; omega
  have e2 : n2 = l2.length := by have := h2.len; rw [ecells_len] at this; omega
  have ht : etotal [l1, l2] = n1 + n2 := by simp [etotal]; omega
  have hsl := sl_at w g 1 2 2 #[.slice A1 n1 c1, .slice A2 n2 c2] t hg rfl (Nat.le_refl _) (by omega)
  have hC := econcat_any _ 2 2 _ _ _ [l1, l2] _ hsl (erows2 (h1.alloc (by decide) _) (h2.alloc (by decide) _)) (by omega) (by omega)
  refine hC.mono ?_
  rintro e w' ⟨v, rfl, hown, hb⟩
  rw [ht] at hown
  obtain ⟨A, c, rfl, -⟩ := own_sl hown
  refine ⟨A, c, rfl, ?_, hb⟩
  have hsz : (w.alloc (.cells #[.slice A1 n1 c1, .slice A2 n2 c2] t)).heap.size = w.heap.size + 1 := by simp
  rw [hsz] at hown
  simpa using hown
end Go.Proofs.Ytbgdepaffgeinaa
