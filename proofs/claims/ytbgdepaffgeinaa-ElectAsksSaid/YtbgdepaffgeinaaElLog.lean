/- A log of entries of small terms. -/
import Derived.Test.YtbgdepaffgeinaaElNew
namespace Go.Proofs.Ytbgdepaffgeinaa
open Go.RowKit
theorem Sl.nat {w : World} {lo hi n c k : Nat} {A : Option Addr} {xs : List Nat} (h : Sl w lo hi 1 A n c (xs.map uv)) (hk : k < n) :
    ∃ ad i, A = some ad ∧ xs[k]? = some i ∧ w.cell? (ad.add k) = some (.int .u64 (i : Int)) := by
  obtain ⟨ad, u, e, hx, hc⟩ := h.nth hk
  rw [List.getElem?_map] at hx
  match hb : xs[k]?, hx with
  | some b, hx => exact ⟨ad, b, e, rfl, by rw [hc]; simpa [uv] using hx.symm⟩
set_option maxRecDepth 100000 in
set_option maxHeartbeats 6400000 in
theorem log_any (A : Option Addr) (n c lo hi : Nat) (xs : List Nat) (w : World) (hs : Sl w lo hi 1 A n c (xs.map uv)) :
    Calls Try.prog 71 #[.slice A n c] w fun e w' => ∃ v es, e = .returned (.agg #[.int .u64 0, .int .u64 0, v]) ∧ w'.ownsRow w.heap.size 35 3 v es.length (ecells es) ∧ es.length ≤ 6 ∧ (∀ e ∈ es, e.t < 100) ∧ Below w.heap.size w w' := by
  obtain ⟨i0, hi0, hz0, hz1, hz2⟩ := info_parts en_info
  have hmax := hs.max
  have hcap := hs.cap
  have HS : Hid (∀ W, Below w.heap.size w W → Sl W lo hi 1 A n c (xs.map uv)) := fun W hW => hs.after (by decide) hW
  clear hs
  go_enter Try.func71, Try.ntmps71
  go_wp2
  go_loopw [4, 5] (fun ls ii wr => ∃ (k T : Nat) (v : Value) (es : List Ent), k ≤ 6 ∧ ii = .int .i64 k ∧ ls = .int .u64 (T : Int) ∧ Blk wr (w.heap.size + 1) 25 #[.int .u64 0, .int .u64 0, v] ∧ Blk wr w.heap.size 25 #[.int .u64 0, .int .u64 0, .slice none 0 0] ∧ wr.ownsRow (w.heap.size + 2) 35 3 v es.length (ecells es) ∧ es.length ≤ k ∧ (∀ e ∈ es, e.t < 100) ∧ Below w.heap.size w wr) (fun _ ii _ => 6 - (intOf ii).toNat)
  case atStart => exact ⟨0, 0, .slice none 0 0, [], Nat.zero_le _, rfl, rfl, by have := Blk.new (w.alloc (.cells #[.int .u64 0, .int .u64 0, .slice none 0 0] 25)) 25 #[.int .u64 0, .int .u64 0, .slice none 0 0]; rw [alloc_size] at this; exact this, (Blk.new w _ _).alloc _, World.ownsRow_nil _ _ _ _, Nat.le_refl _, (fun e he => by cases he), ((Below.refl _ w).alloc (Nat.le_refl _) _).alloc (by simp) _⟩
  case round =>
    obtain ⟨k, T, v, es, hk, rfl, rfl, hb3, hb2, hrow, hel, hes, hbr⟩ := hrel
    have hsl := HS.out wr hbr
    have HB3 := Lib.hid hb3
    have HB2 := Lib.hid hb2
    have HROW := Lib.hid hrow
    have HES := Lib.hid hes
    have HBR := Lib.hid hbr
    obtain ⟨Av, cv, hv, -⟩ := own_sl hrow
    subst hv
    obtain ⟨x0, x1, x2⟩ := hb3.c3
    obtain ⟨y0, y1, y2⟩ := hb2.c3
    have f0 := hb2.frozen 0
    have f1 := hb2.frozen 1
    have f2 := hb2.frozen 2
    have hl3 := hb3.lt
    obtain ⟨m, hm⟩ : ∃ m, es.length = m := ⟨_, rfl⟩
    have HM := Lib.hid hm
    simp only [hm] at x2 HB3 HROW hel
    clear hb3 hb2 hrow hes hm
    by_cases hkn : k < n
    · by_cases hk6 : k < 6
      · obtain ⟨ad, u, rfl, hu, z0⟩ := hsl.nat hkn
        clear hu hsl
        by_cases hT : T ≤ u
        · by_cases h100 : u < 100
          · have hT' : (T : Int) ≤ (u : Int) := by omega
            have h100' : (u : Int) < 100 := by omega
            go_wp2_with (at_builtin; refine wpList_app _ rfl (.tmp 35) (.tmp 38) 23 rfl (w.heap.size + 2) 35 i0 _ 3 40 Try.underlying23 hi0 hz0 hz1 hz2 rfl (by omega) (.slice Av m cv) m (ecells es) rfl (by exact own_alloc' HROW.out _) wr.heap.size (wr.heap.size + 1) (some ⟨wr.heap.size, 0, none⟩) 1 1 [.int .u64 (u : Int), .int .i64 0, .slice none 0 0] rfl (by exact sl_at wr wr.heap.size 3 1 1 #[.int .u64 (u : Int), .int .i64 0, .slice none 0 0] _ rfl (by simp) (Nat.le_refl _) (by decide)) (by intro z hz; simp only [List.mem_cons, List.not_mem_nil, or_false] at hz; rcases hz with rfl | rfl | rfl <;> rfl) (by simp only [maxLen]; omega) (by omega) (by simp; omega) ?_; intro v4 w4 o4 g4 a4; have hq3 := (HB3.out.alloc (.cells #[.int .u64 (u : Int), .int .i64 0, .slice none 0 0] 35)).grown g4 (fun e => by have := (HROW.out.lt _ e.symm).1; omega); obtain ⟨q0, q1, q2⟩ := hq3.c3; have qf2 := hq3.frozen 2; have HQ3 := Lib.hid hq3; obtain ⟨A4, c4, hv4, -⟩ := own_sl o4; subst hv4; clear hq3)
            go_roundw
            case rel =>
              have hlt2 : w.heap.size + 1 < w.heap.size + 2 := by omega
              have hq2 := (HB2.out.alloc (.cells #[.int .u64 (u : Int), .int .i64 0, .slice none 0 0] 35)).grown g4 (fun e => by have := (HROW.out.lt _ e.symm).1; omega)
              refine ⟨k + 1, u, .slice A4 (m + 1) c4, es ++ [tent u], by omega, by first | rfl | go_num, rfl, ?_, hq2.far (p := ⟨w.heap.size + 1, 2, none⟩) (by show w.heap.size ≠ w.heap.size + 1; omega) _, ?_, by rw [List.length_append, HM.out]; show m + 1 ≤ k + 1; omega, ?_, ?_⟩
              · have := HQ3.out.set_ 2 (.slice A4 (m + 1) c4)
                simpa using this
              · rw [List.length_append, HM.out, ecells_append]
                exact own_set o4 hlt2 2 _
              · intro e he
                rcases List.mem_append.1 he with he | he
                · exact HES.out e he
                · rw [List.mem_singleton.1 he]; exact h100
              · exact ((HBR.out.alloc HBR.out.size _).grown g4 (by have := HBR.out.size; simp; omega) fun bb hb => by have := (HROW.out.lt bb hb).1; omega).setCell (p := ⟨w.heap.size + 1, 2, none⟩) (by show w.heap.size ≤ w.heap.size + 1; omega) _
            case measure => simp [intOf]; omega
          · have hT' : (T : Int) ≤ (u : Int) := by omega
            have h100' : ¬ (u : Int) < 100 := by omega
            go_wp2
            go_roundw
            case rel => exact ⟨k + 1, T, .slice Av m cv, es, by omega, by first | rfl | go_num, rfl, HB3.out, HB2.out, by rw [HM.out]; exact HROW.out, by rw [HM.out]; omega, HES.out, HBR.out⟩
            case measure => simp [intOf]; omega
        · have hT' : ¬ (T : Int) ≤ (u : Int) := by omega
          go_wp2
          go_roundw
          case rel => exact ⟨k + 1, T, .slice Av m cv, es, by omega, by first | rfl | go_num, rfl, HB3.out, HB2.out, by rw [HM.out]; exact HROW.out, by rw [HM.out]; omega, HES.out, HBR.out⟩
          case measure => simp [intOf]; omega
      · have hk6' : ¬ (k : Int) < 6 := by omega
        clear hsl
        go_wp2
        have B4 := ((HB2.out.set_ 0 (.int .u64 0)).set_ 1 (.int .u64 0)).set_ 2 (.slice Av m cv)
        have hne : w.heap.size + 2 > w.heap.size := by omega
        have hr := own_set (own_set (own_set HROW.out hne 0 (.int .u64 0)) hne 1 (.int .u64 0)) hne 2 (.slice Av m cv)
        have D4 := ((HBR.out.setCell (p := ⟨w.heap.size, 0, none⟩) (Nat.le_refl _) (.int .u64 0)).setCell (p := ⟨w.heap.size, 1, none⟩) (Nat.le_refl _) (.int .u64 0)).setCell (p := ⟨w.heap.size, 2, none⟩) (Nat.le_refl _) (.slice Av m cv)
        obtain ⟨r0, r1, r2⟩ := B4.c3
        refine bodyPost_ret (v := .agg #[.int .u64 0, .int .u64 0, .slice Av m cv]) (by simp [results, Try.results71, go_sem, r0, r1, r2]) rfl ?_
        have hr3 := own_wide hr (show w.heap.size ≤ w.heap.size + 2 by omega)
        obtain rfl : es.length = m := HM.out
        first | exact ⟨_, es, rfl, hr3, by omega, HES.out, D4⟩ | exact ⟨_, rfl, es, hr3, by omega, HES.out, D4⟩
    · clear hsl
      by_cases hk6 : k < 6
      · have hk6' : (k : Int) < 6 := by omega
        go_wp2
        have B4 := ((HB2.out.set_ 0 (.int .u64 0)).set_ 1 (.int .u64 0)).set_ 2 (.slice Av m cv)
        have hne : w.heap.size + 2 > w.heap.size := by omega
        have hr := own_set (own_set (own_set HROW.out hne 0 (.int .u64 0)) hne 1 (.int .u64 0)) hne 2 (.slice Av m cv)
        have D4 := ((HBR.out.setCell (p := ⟨w.heap.size, 0, none⟩) (Nat.le_refl _) (.int .u64 0)).setCell (p := ⟨w.heap.size, 1, none⟩) (Nat.le_refl _) (.int .u64 0)).setCell (p := ⟨w.heap.size, 2, none⟩) (Nat.le_refl _) (.slice Av m cv)
        obtain ⟨r0, r1, r2⟩ := B4.c3
        refine bodyPost_ret (v := .agg #[.int .u64 0, .int .u64 0, .slice Av m cv]) (by simp [results, Try.results71, go_sem, r0, r1, r2]) rfl ?_
        have hr3 := own_wide hr (show w.heap.size ≤ w.heap.size + 2 by omega)
        obtain rfl : es.length = m := HM.out
        first | exact ⟨_, es, rfl, hr3, by omega, HES.out, D4⟩ | exact ⟨_, rfl, es, hr3, by omega, HES.out, D4⟩
      · have hk6' : ¬ (k : Int) < 6 := by omega
        go_wp2
        have B4 := ((HB2.out.set_ 0 (.int .u64 0)).set_ 1 (.int .u64 0)).set_ 2 (.slice Av m cv)
        have hne : w.heap.size + 2 > w.heap.size := by omega
        have hr := own_set (own_set (own_set HROW.out hne 0 (.int .u64 0)) hne 1 (.int .u64 0)) hne 2 (.slice Av m cv)
        have D4 := ((HBR.out.setCell (p := ⟨w.heap.size, 0, none⟩) (Nat.le_refl _) (.int .u64 0)).setCell (p := ⟨w.heap.size, 1, none⟩) (Nat.le_refl _) (.int .u64 0)).setCell (p := ⟨w.heap.size, 2, none⟩) (Nat.le_refl _) (.slice Av m cv)
        obtain ⟨r0, r1, r2⟩ := B4.c3
        refine bodyPost_ret (v := .agg #[.int .u64 0, .int .u64 0, .slice Av m cv]) (by simp [results, Try.results71, go_sem, r0, r1, r2]) rfl ?_
        have hr3 := own_wide hr (show w.heap.size ≤ w.heap.size + 2 by omega)
        obtain rfl : es.length = m := HM.out
        first | exact ⟨_, es, rfl, hr3, by omega, HES.out, D4⟩ | exact ⟨_, rfl, es, hr3, by omega, HES.out, D4⟩
end Go.Proofs.Ytbgdepaffgeinaa
