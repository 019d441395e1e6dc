/- The document's without, Set, Stop. -/
import Derived.Test.YtcocakbopbehjaaClkRef
namespace Go.Proofs.Ytcocakbopbehjaa
open Go.RowKit
theorem rt_info : (Try.prog.info? 73).map (fun i => (i.zero, i.size, i.bytes)) = some (some (.agg #[.int .i64 0, .int .i64 0, .int .u64 0]), 3, 24) := by kernel_rfl
theorem rwo_snoc {nd id : Int} {l : List RT} {k : Nat} {t : RT} (ht : l[k]? = some t) : rwo nd id (l.take (k + 1)) = rwo nd id (l.take k) ++ (if isT nd id t then [] else [t]) := by
  obtain ⟨h1, h2⟩ := List.getElem?_eq_some_iff.1 ht
  unfold rwo
  rw [List.take_succ_eq_append_getElem h1, List.filter_append, h2]
  rcases h : isT nd id t with _ | _ <;> simp [h]
theorem rsel_snoc {nd : Int} {l : List RT} {k : Nat} {t : RT} (ht : l[k]? = some t) : (rsel nd (l.take (k + 1))).length = (rsel nd (l.take k)).length + (if t.1 = nd then 1 else 0) := by
  obtain ⟨h1, h2⟩ := List.getElem?_eq_some_iff.1 ht
  rw [List.take_succ_eq_append_getElem h1, rsel_append, h2, List.length_append, rsel_cons]
  split <;> simp [rsel]
theorem any_snoc {nd id : Int} {l : List RT} {k : Nat} {t : RT} (ht : l[k]? = some t) : (l.take (k + 1)).any (isT nd id) = ((l.take k).any (isT nd id) || isT nd id t) := by
  obtain ⟨h1, h2⟩ := List.getElem?_eq_some_iff.1 ht
  rw [List.take_succ_eq_append_getElem h1, List.any_append, h2]
  simp
theorem rwo_len (nd id : Int) (l : List RT) : (rwo nd id l).length ≤ l.length := List.length_filter_le _ _
theorem rsel_len (nd : Int) (l : List RT) : (rsel nd l).length ≤ l.length := by unfold rsel; rw [List.length_map]; exact List.length_filter_le _ _
section
variable {w : World} {g : Nat} {vn vp vt : Value} {N : List Nat} {P : List Bool} {l : List RT}
set_option maxRecDepth 100000 in
set_option maxHeartbeats 3200000 in
theorem rwithout_any (nd id : Int) (h : RS w g vn vp vt N P l) :
    Calls Try.prog 34 #[.pointer (some ⟨g, 0, none⟩), .int .i64 nd, .int .i64 id] w fun e w' => ∃ A c, e = .returned (.tuple #[.slice A (rwo nd id l).length c, .int .i64 ((rsel nd l).length : Int), .bool (l.any (isT nd id))]) ∧ w'.ownsRow w.heap.size 73 3 (.slice A (rwo nd id l).length c) (rwo nd id l).length (rcells (rwo nd id l)) ∧ Below w.heap.size w w' := by
  obtain ⟨i0, hi0, hz0, hz1, hz2⟩ := info_parts rt_info
  obtain ⟨A, c, hv, hs⟩ := own_sl h.rt
  subst hv
  have hlen := h.len
  obtain ⟨n, hn⟩ : ∃ n, l.length = n := ⟨_, rfl⟩
  have hB := h.blk
  rw [hn] at hs hlen hB
  have HS := Lib.hid hs
  have HN := Lib.hid hn
  have HB := Lib.hid hB
  have hgl := hB.lt
  clear h hs hn hB
  go_enter Try.func34, Try.ntmps34
  go_wp2
  go_loopw [9, 10, 11, 12, 13] (fun v m z i _ wr => ∃ (k mm : Nat) (zz : Bool), k ≤ n ∧ i = .int .i64 k ∧ m = .int .i64 (mm : Int) ∧ z = .bool zz ∧ mm = (rsel nd (l.take k)).length ∧ zz = (l.take k).any (isT nd id) ∧ wr.ownsRow w.heap.size 73 3 v (rwo nd id (l.take k)).length (rcells (rwo nd id (l.take k))) ∧ Below w.heap.size w wr) (fun _ _ _ i _ _ => n - (intOf i).toNat)
  case atStart => exact ⟨0, 0, false, Nat.zero_le _, rfl, rfl, rfl, rfl, rfl, World.ownsRow_nil _ _ _ _, Below.refl _ _⟩
  case round =>
    obtain ⟨k, mm, zz, hk, rfl, rfl, rfl, hmm, hzz, hrow, hbr⟩ := hrel
    obtain ⟨D, d, rfl, -⟩ := own_sl hrow
    obtain ⟨x0, x1, x2⟩ := (HB.out.after hbr).c3
    have hgl2 : g < wr.heap.size := Nat.lt_of_lt_of_le hgl hbr.size
    have hne : g ≠ wr.heap.size := by omega
    have hml : mm ≤ 1000 := by rw [hmm]; exact Nat.le_trans (rsel_len _ _) (by rw [List.length_take]; omega)
    have hrl : (rwo nd id (l.take k)).length ≤ 1000 := Nat.le_trans (rwo_len _ _ _) (by rw [List.length_take]; omega)
    by_cases hlt : k < n
    · obtain ⟨ad, t, rfl, ht, z0, z1, z2⟩ := (HS.out.after (by decide) hbr).rt hlt
      have hne2 : ad.block ≠ wr.heap.size := by
        have := (HS.out.after (by decide) hbr).lt (by decide) (by omega) rfl
        omega
      have HSN := Lib.hid (rwo_snoc (nd := nd) (id := id) ht)
      have HMN := Lib.hid (rsel_snoc (nd := nd) ht)
      have HZN := Lib.hid (any_snoc (nd := nd) (id := id) ht)
      obtain ⟨L, hL⟩ : ∃ L, rwo nd id (l.take k) = L := ⟨_, rfl⟩
      simp only [hL] at hrow hrl HSN ⊢
      obtain ⟨m, hm⟩ : ∃ m, L.length = m := ⟨_, rfl⟩
      simp only [hm] at hrow hrl ⊢
      rw [← hmm] at HMN
      rw [← hzz] at HZN
      have HM := Lib.hid hm
      have HROW := Lib.hid hrow
      have HBR := Lib.hid hbr
      obtain ⟨tn, ti, ta⟩ := t
      simp only at z0 z1 z2
      have hwm : IntKind.i64.wrap ((mm : Int) + 1) = ((mm + 1 : Nat) : Int) := by rw [IntKind.wrap_i64]; omega
      clear hL hm hrow hbr ht hmm hzz hgl2
      by_cases h1 : tn = nd
      · subst h1
        by_cases h2 : ti = id
        · subst h2
          go_wp2
          go_roundw
          case rel =>
            refine ⟨k + 1, mm + 1, true, by omega, by first | rfl | go_num, by first | rfl | go_num, rfl, ?_, ?_, ?_, HBR.out.alloc HBR.out.size _⟩
            · rw [HMN.out, if_pos rfl]
            · rw [HZN.out]; simp [isT]
            · rw [HSN.out, if_pos (by simp [isT]), List.append_nil, HM.out]
              exact own_alloc' HROW.out _
          case measure => simp [intOf]; omega
        · have e2 : (ti == id) = false := beq_eq_false_iff_ne.2 h2
          go_wp2_with (at_builtin; refine wpList_app _ rfl (.tmp 46) (.tmp 48) 47 rfl w.heap.size 73 i0 _ 3 24 Try.underlying47 hi0 hz0 hz1 hz2 rfl (by omega) (.slice D m d) m (rcells L) rfl (by exact own_alloc' (own_alloc' HROW.out _) _) (wr.heap.size + 1) (wr.heap.size + 1 + 1) (some ⟨wr.heap.size + 1, 0, none⟩) 1 1 [.int .i64 tn, .int .i64 ti, .int .u64 (ta : Int)] rfl (by have := sl_new (wr.alloc (.cells #[.int .i64 tn, .int .i64 ti, .int .u64 (ta : Int)] 73)) 3 1 1 #[.int .i64 tn, .int .i64 ti, .int .u64 (ta : Int)] 73 rfl (Nat.le_refl _) (by decide); rw [alloc_size] at this; exact this) (rt_three _ _ _) (by simp only [maxLen]; omega) (by omega) (by have := HBR.out.size; simp only [alloc_size]; omega) ?_; intro v4 w4 o4 g4 a4)
          go_roundw
          case rel =>
            refine ⟨k + 1, mm + 1, zz, by omega, by first | rfl | go_num, by first | rfl | go_num, rfl, ?_, ?_, ?_, ?_⟩
            · rw [HMN.out, if_pos rfl]
            · rw [HZN.out]; simp [isT, h2]
            · rw [HSN.out, if_neg (by simp [isT, h2]), List.length_append, HM.out, rcells_append]
              exact o4
            · exact ((HBR.out.alloc HBR.out.size _).alloc (by have := HBR.out.size; simp only [alloc_size]; omega) _).grown g4 (by have := HBR.out.size; simp only [alloc_size]; omega) fun b hb => (HROW.out.lt b hb).1
          case measure => simp [intOf]; omega
      · have e1 : (tn == nd) = false := beq_eq_false_iff_ne.2 h1
        go_wp2_with (at_builtin; refine wpList_app _ rfl (.tmp 46) (.tmp 48) 47 rfl w.heap.size 73 i0 _ 3 24 Try.underlying47 hi0 hz0 hz1 hz2 rfl (by omega) (.slice D m d) m (rcells L) rfl (by exact own_alloc' (own_alloc' HROW.out _) _) (wr.heap.size + 1) (wr.heap.size + 1 + 1) (some ⟨wr.heap.size + 1, 0, none⟩) 1 1 [.int .i64 tn, .int .i64 ti, .int .u64 (ta : Int)] rfl (by have := sl_new (wr.alloc (.cells #[.int .i64 tn, .int .i64 ti, .int .u64 (ta : Int)] 73)) 3 1 1 #[.int .i64 tn, .int .i64 ti, .int .u64 (ta : Int)] 73 rfl (Nat.le_refl _) (by decide); rw [alloc_size] at this; exact this) (rt_three _ _ _) (by simp only [maxLen]; omega) (by omega) (by have := HBR.out.size; simp only [alloc_size]; omega) ?_; intro v4 w4 o4 g4 a4)
        go_roundw
        case rel =>
          refine ⟨k + 1, mm, zz, by omega, by first | rfl | go_num, rfl, rfl, ?_, ?_, ?_, ?_⟩
          · rw [HMN.out, if_neg h1, Nat.add_zero]
          · rw [HZN.out]; simp [isT, h1]
          · rw [HSN.out, if_neg (by simp [isT, h1]), List.length_append, HM.out, rcells_append]
            exact o4
          · exact ((HBR.out.alloc HBR.out.size _).alloc (by have := HBR.out.size; simp only [alloc_size]; omega) _).grown g4 (by have := HBR.out.size; simp only [alloc_size]; omega) fun b hb => (HROW.out.lt b hb).1
        case measure => simp [intOf]; omega
    · obtain rfl : k = n := by omega
      have htk : l.take k = l := List.take_of_length_le (by rw [HN.out]; exact Nat.le_refl _)
      rw [htk] at hmm hzz hrow hrl
      simp only [htk]
      have HROW := Lib.hid hrow
      have HBR := Lib.hid hbr
      have HMM := Lib.hid hmm
      have HZZ := Lib.hid hzz
      clear hrow hbr hmm hzz
      obtain ⟨m, hm⟩ : ∃ m, (rwo nd id l).length = m := ⟨_, rfl⟩
      have HM := Lib.hid hm
      simp only [hm] at hrl HROW ⊢
      clear hm
      go_wp2
      go_ret3
      rw [HM.out, ← HMM.out, ← HZZ.out]
      exact ⟨D, d, rfl, HROW.out, HBR.out⟩
end
end Go.Proofs.Ytcocakbopbehjaa
