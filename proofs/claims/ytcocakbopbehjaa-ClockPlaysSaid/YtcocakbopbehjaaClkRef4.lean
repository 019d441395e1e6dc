/- The document's first, Due. -/
import Derived.Test.YtcocakbopbehjaaClkRef3
namespace Go.Proofs.Ytcocakbopbehjaa
open Go.RowKit
def bestC (nd : Int) (b : Option Tm) : Array Value := match b with | none => #[.int .i64 0, .int .i64 0, .int .u64 0] | some u => #[.int .i64 nd, .int .i64 u.1, .int .u64 (u.2 : Int)]
theorem rfold_snoc {nd : Int} {now : Nat} {l : List RT} {k : Nat} {t : RT} (ht : l[k]? = some t) : (l.take (k + 1)).foldl (rbest nd now) none = rbest nd now ((l.take k).foldl (rbest nd now) none) t := by
  obtain ⟨h1, h2⟩ := List.getElem?_eq_some_iff.1 ht
  rw [List.take_succ_eq_append_getElem h1, List.foldl_append, h2]
  rfl
section
variable {w : World} {g : Nat} {vn vp vt : Value} {N : List Nat} {P : List Bool} {l : List RT}
set_option maxRecDepth 100000 in
set_option maxHeartbeats 6400000 in
theorem rfirst_any (i : Nat) (h : RS w g vn vp vt N P l) {x : Nat} (hi : N[i]? = some x) {r : Option Tm} (hr : rfirst (i : Int) x l = r) :
    Calls Try.prog 35 #[.pointer (some ⟨g, 0, none⟩), .int .i64 (i : Int)] w fun e w' => e = .returned (.tuple #[.agg (bestC (i : Int) r), .bool r.isSome]) ∧ Below w.heap.size w w' := by
  have hil := (List.getElem?_eq_some_iff.1 hi).1
  obtain ⟨b, c, y, rfl, hy, hcell, hfz, hyb, hnc⟩ := h.now hil
  rw [hi] at hy
  injection hy with hy
  subst hy
  obtain ⟨A, tc, hv, hs⟩ := own_sl h.rt
  subst hv
  have hsh := h.short
  have hlen := h.len
  have hbl : b < w.heap.size := (h.rn.lt b rfl).2
  have hB := h.blk
  have hgl := hB.lt
  obtain ⟨n, hn⟩ : ∃ n, N.length = n := ⟨_, rfl⟩
  obtain ⟨m, hm⟩ : ∃ m, l.length = m := ⟨_, rfl⟩
  simp only [hn] at hil hsh hnc hB
  simp only [hm] at hs hlen hB
  have HB := Lib.hid hB
  have HS := Lib.hid hs
  have HM := Lib.hid hm
  have HR := Lib.hid hr
  have HCELL : Hid (∀ W, Below w.heap.size w W → W.cell? ⟨b, i, none⟩ = some (.int .u64 (x : Int))) := fun W hW => (hW.cell (p := ⟨b, i, none⟩) hbl).trans hcell
  clear h hi hB hs hn hm hr hcell hyb hfz
  go_enter Try.func35, Try.ntmps35
  go_wp2
  go_loopw [7, 8, 9] (fun z iv _ wr => ∃ (k : Nat) (bb : Option Tm), k ≤ m ∧ iv = .int .i64 k ∧ z = .bool bb.isSome ∧ bb = (l.take k).foldl (rbest (i : Int) x) none ∧ Blk wr (w.heap.size + 1) 73 (bestC (i : Int) bb) ∧ Blk wr w.heap.size 73 #[.int .i64 0, .int .i64 0, .int .u64 0] ∧ Below w.heap.size w wr) (fun _ iv _ _ => m - (intOf iv).toNat)
  case atStart => exact ⟨0, none, Nat.zero_le _, rfl, rfl, rfl, by have := Blk.new (w.alloc (.cells #[.int .i64 0, .int .i64 0, .int .u64 0] 73)) 73 #[.int .i64 0, .int .i64 0, .int .u64 0]; rw [alloc_size] at this; exact this, (Blk.new w _ _).alloc _, ((Below.refl _ w).alloc (Nat.le_refl _) _).alloc (by simp) _⟩
  case round =>
    obtain ⟨k, bb, hk, rfl, rfl, hbb, hb6, hb4, hbr⟩ := hrel
    obtain ⟨x0, x1, x2⟩ := (HB.out.after hbr).c3
    have hgl2 : g < wr.heap.size := Nat.lt_of_lt_of_le hgl hbr.size
    have hbl2 : b < wr.heap.size := Nat.lt_of_lt_of_le hbl hbr.size
    have hbw := hb6.lt
    have hne : g ≠ wr.heap.size := by omega
    have hneb : b ≠ wr.heap.size := by omega
    have hne6 : w.heap.size + 1 ≠ wr.heap.size := by omega
    have hc := HCELL.out wr hbr
    have HB6 := Lib.hid hb6
    have HB4 := Lib.hid hb4
    have HBR := Lib.hid hbr
    have HBB := Lib.hid hbb
    clear hb4 hb6 hbb
    by_cases hlt : k < m
    · obtain ⟨ad, t, rfl, ht, z0, z1, z2⟩ := (HS.out.after (by decide) hbr).rt hlt
      have hne2 : ad.block ≠ wr.heap.size := by
        have := (HS.out.after (by decide) hbr).lt (by decide) (by omega) rfl
        omega
      have hsn := rfold_snoc (nd := (i : Int)) (now := x) ht
      rw [← HBB.out] at hsn
      have HSN := Lib.hid hsn
      obtain ⟨tn, ti, ta⟩ := t
      simp only at z0 z1 z2
      clear hsn ht hbr hgl2 hbl2
      have hfin : ∀ (W : World) (b2 : Option Tm), rbest (i : Int) x bb (tn, ti, ta) = b2 → Blk W (w.heap.size + 1) 73 (bestC (i : Int) b2) → Blk W w.heap.size 73 #[.int .i64 0, .int .i64 0, .int .u64 0] → Below w.heap.size w W →
          ∃ (k_1 : Nat) (b3 : Option Tm), k_1 ≤ m ∧ Value.int .i64 ((k : Int) + 1) = .int .i64 k_1 ∧ Value.bool b2.isSome = .bool b3.isSome ∧ b3 = (l.take k_1).foldl (rbest (i : Int) x) none ∧ Blk W (w.heap.size + 1) 73 (bestC (i : Int) b3) ∧ Blk W w.heap.size 73 #[.int .i64 0, .int .i64 0, .int .u64 0] ∧ Below w.heap.size w W := fun W b2 e h1 h2 h3 => ⟨k + 1, b2, by omega, rfl, rfl, by rw [HSN.out, e], h1, h2, h3⟩
      have HFIN := Lib.hid hfin
      clear hfin
      go_wp2
      have K0 := Lib.cell?_alloc_some (.cells #[.int .i64 tn, .int .i64 ti, .int .u64 (ta : Int)] 73) x0
      have Kc := Lib.cell?_alloc_some (.cells #[.int .i64 tn, .int .i64 ti, .int .u64 (ta : Int)] 73) hc
      have K2 := Lib.cell?_alloc_some (.cells #[.int .i64 tn, .int .i64 ti, .int .u64 (ta : Int)] 73) x2
      obtain ⟨t0, t1, t2⟩ := (Blk.new wr 73 #[.int .i64 tn, .int .i64 ti, .int .u64 (ta : Int)]).c3
      have HB6a := Lib.hid (HB6.out.alloc (.cells #[.int .i64 tn, .int .i64 ti, .int .u64 (ta : Int)] 73))
      have HB4a := Lib.hid (HB4.out.alloc (.cells #[.int .i64 tn, .int .i64 ti, .int .u64 (ta : Int)] 73))
      have HBRa := Lib.hid (HBR.out.alloc HBR.out.size (.cells #[.int .i64 tn, .int .i64 ti, .int .u64 (ta : Int)] 73))
      generalize wr.alloc (.cells #[.int .i64 tn, .int .i64 ti, .int .u64 (ta : Int)] 73) = wa at K0 Kc K2 t0 t1 t2 HB6a HB4a HBRa ⊢
      generalize wr.heap.size = tb at t0 t1 t2 ⊢
      clear HB6 HB4 HBR x0 x1 x2 hc z0 z1 z2 hne hneb hne2
      have hkeep : ∀ q : Nat, rbest (i : Int) x bb (tn, ti, ta) = bb → _ := fun q e => HFIN.out (wa.drewN q) bb e (HB6a.out.drewN q) (HB4a.out.drewN q) (below_drewN HBRa.out q)
      have hput : ∀ q : Nat, tn = (i : Int) → rbest (i : Int) x bb (tn, ti, ta) = some (ti, ta) → _ := fun q e0 e => HFIN.out ((((wa.setCell ⟨w.heap.size + 1, 0, none⟩ (.int .i64 tn)).setCell ⟨w.heap.size + 1, 1, none⟩ (.int .i64 ti)).setCell ⟨w.heap.size + 1, 2, none⟩ (.int .u64 (ta : Int))).drewN q) (some (ti, ta)) e (by
        have h := (((HB6a.out.set_ 0 (.int .i64 tn)).set_ 1 (.int .i64 ti)).set_ 2 (.int .u64 (ta : Int))).drewN q
        have ec : (((bestC (i : Int) bb).setIfInBounds 0 (.int .i64 tn)).setIfInBounds 1 (.int .i64 ti)).setIfInBounds 2 (.int .u64 (ta : Int)) = bestC (i : Int) (some (ti, ta)) := by subst e0; cases bb <;> rfl
        rw [ec] at h
        exact h) ((((HB4a.out.far (by show w.heap.size ≠ w.heap.size + 1; omega) _).far (by show w.heap.size ≠ w.heap.size + 1; omega) _).far (by show w.heap.size ≠ w.heap.size + 1; omega) _).drewN q) (below_drewN (((HBRa.out.grown (only_setCell (World.grownBy.refl wa (some (w.heap.size + 1))) 0 (.int .i64 tn)) HBRa.out.size (fun k e => by injection e with e; omega)).grown (only_setCell (World.grownBy.refl _ (some (w.heap.size + 1))) 1 (.int .i64 ti)) (by rw [size_setCell']; exact HBRa.out.size) (fun k e => by injection e with e; omega)).grown (only_setCell (World.grownBy.refl _ (some (w.heap.size + 1))) 2 (.int .u64 (ta : Int))) (by rw [size_setCell', size_setCell']; exact HBRa.out.size) (fun k e => by injection e with e; omega)) q)
      have HKEEP := Lib.hid hkeep
      have HPUT := Lib.hid hput
      have hb6 := HB6a.out
      have f0 := hb6.frozen 0
      have f1 := hb6.frozen 1
      have f2 := hb6.frozen 2
      clear hkeep hput HFIN HB4a HBRa
      by_cases h1 : tn = (i : Int)
      · have hnn : (tn != (i : Int)) = false := by simp [h1]
        by_cases h2 : ta ≤ x
        · have gd : decide ((x : Int) < (ta : Int)) = false := decide_eq_false (by omega)
          have g1 : ¬ x < ta := by omega
          have H1 := Lib.hid h1
          have H2 := Lib.hid h2
          clear h1 h2
          cases bb with
          | none =>
            obtain ⟨y0, y1, y2⟩ := hb6.c3
            clear hb6
            go_wp2
            go_quiet (fail)
            go_wp2
            go_roundw
            case rel => exact HPUT.out nq H1.out (by unfold rbest; rw [if_pos ⟨H1.out, H2.out⟩])
            case measure => simp [intOf]; omega
          | some u =>
            obtain ⟨ui, ua⟩ := u
            obtain ⟨y0, y1, y2⟩ := hb6.c3
            simp only at y0 y1 y2
            clear hb6
            rcases Nat.lt_trichotomy ta ua with h3 | h3 | h3
            · have q1 : decide ((ta : Int) < (ua : Int)) = true := decide_eq_true (by omega)
              go_wp2
              go_quiet (fail)
              go_wp2
              go_roundw
              case rel => exact HPUT.out nq H1.out (by unfold rbest; rw [if_pos ⟨H1.out, H2.out⟩]; show (if tlt _ _ = true then _ else _) = _; rw [if_pos ((tlt_iff _ _).2 (.inl h3))])
              case measure => simp [intOf]; omega
            · have q1 : ¬ ta < ua := by omega
              have q2 : ((ta : Int) == (ua : Int)) = true := by simp [h3]
              have q3 : (ta == ua) = true := by simp [h3]
              have H3 := Lib.hid h3
              clear h3
              by_cases h4 : ti < ui
              · have H4 := Lib.hid h4
                go_wp2
                go_quiet (fail)
                go_wp2
                go_roundw
                case rel => exact HPUT.out nq H1.out (by unfold rbest; rw [if_pos ⟨H1.out, H2.out⟩]; show (if tlt _ _ = true then _ else _) = _; rw [if_pos ((tlt_iff _ _).2 (.inr ⟨H3.out, H4.out⟩))])
                case measure => simp [intOf]; omega
              · have H4 := Lib.hid h4
                go_wp2
                go_quiet (fail)
                go_wp2
                go_roundw
                case rel => exact HKEEP.out nq (by unfold rbest; rw [if_pos ⟨H1.out, H2.out⟩]; show (if tlt _ _ = true then _ else _) = _; rw [if_neg (fun e => by have := (tlt_iff _ _).1 e; have h3 := H3.out; have h4 := H4.out; simp only at this; omega)])
                case measure => simp [intOf]; omega
            · have q1 : ¬ ta < ua := by omega
              have q2 : ((ta : Int) == (ua : Int)) = false := beq_eq_false_iff_ne.2 (by omega)
              have q3 : (ta == ua) = false := beq_eq_false_iff_ne.2 (by omega)
              have H3 := Lib.hid h3
              go_wp2
              go_quiet (fail)
              go_wp2
              go_roundw
              case rel => exact HKEEP.out nq (by unfold rbest; rw [if_pos ⟨H1.out, H2.out⟩]; show (if tlt _ _ = true then _ else _) = _; rw [if_neg (fun e => by have := (tlt_iff _ _).1 e; have h3 := H3.out; simp only at this; omega)])
              case measure => simp [intOf]; omega
        · have gd : decide ((x : Int) < (ta : Int)) = true := decide_eq_true (by omega)
          have g1 : x < ta := by omega
          clear hb6
          go_wp2
          go_quiet (fail)
          go_wp2
          go_roundw
          case rel => exact HKEEP.out nq (by unfold rbest; rw [if_neg (fun e => h2 e.2)])
          case measure => simp [intOf]; omega
      · have hnn : (tn != (i : Int)) = true := by simp [h1]
        clear hb6
        go_wp2
        go_quiet (fail)
        go_wp2
        go_roundw
        case rel => exact HKEEP.out nq (by unfold rbest; rw [if_neg (fun e => h1 e.1)])
        case measure => simp [intOf]; omega
    · obtain rfl : k = m := by omega
      have htk : l.take k = l := List.take_of_length_le (by rw [HM.out]; exact Nat.le_refl _)
      have hbr2 : bb = r := by rw [HBB.out, htk]; exact HR.out
      subst hbr2
      obtain ⟨v0, v1, v2⟩ := HB4.out.c3
      have f0 := HB4.out.frozen 0
      have f1 := HB4.out.frozen 1
      have f2 := HB4.out.frozen 2
      cases bb with
      | none =>
        obtain ⟨y0, y1, y2⟩ := HB6.out.c3
        go_wp2
        have HB4c := ((HB4.out.set_ 0 (.int .i64 0)).set_ 1 (.int .i64 0)).set_ 2 (.int .u64 0)
        have HBc : Below w.heap.size w (((wr.setCell ⟨w.heap.size, 0, none⟩ (.int .i64 0)).setCell ⟨w.heap.size, 1, none⟩ (.int .i64 0)).setCell ⟨w.heap.size, 2, none⟩ (.int .u64 0)) := ((HBR.out.grown (only_setCell (World.grownBy.refl wr (some w.heap.size)) 0 (.int .i64 0)) HBR.out.size (fun k e => by injection e with e; omega)).grown (only_setCell (World.grownBy.refl _ (some w.heap.size)) 1 (.int .i64 0)) (by rw [size_setCell']; exact HBR.out.size) (fun k e => by injection e with e; omega)).grown (only_setCell (World.grownBy.refl _ (some w.heap.size)) 2 (.int .u64 0)) (by rw [size_setCell', size_setCell']; exact HBR.out.size) (fun k e => by injection e with e; omega)
        generalize ((wr.setCell ⟨w.heap.size, 0, none⟩ (.int .i64 0)).setCell ⟨w.heap.size, 1, none⟩ (.int .i64 0)).setCell ⟨w.heap.size, 2, none⟩ (.int .u64 0) = w9 at HB4c HBc ⊢
        have HB4d : Blk w9 w.heap.size 73 #[.int .i64 0, .int .i64 0, .int .u64 0] := HB4c
        obtain ⟨c0, c1, c2⟩ := HB4d.c3
        refine bodyPost_ret (v := .tuple #[.agg #[.int .i64 0, .int .i64 0, .int .u64 0], .bool false]) (by simp [results, Try.results35, go_sem, c0, c1, c2]) rfl ⟨rfl, HBc⟩
      | some u =>
        obtain ⟨ui, ua⟩ := u
        obtain ⟨y0, y1, y2⟩ := HB6.out.c3
        simp only at y0 y1 y2
        go_wp2
        have HB4c := ((HB4.out.set_ 0 (.int .i64 (i : Int))).set_ 1 (.int .i64 ui)).set_ 2 (.int .u64 (ua : Int))
        have HBc : Below w.heap.size w (((wr.setCell ⟨w.heap.size, 0, none⟩ (.int .i64 (i : Int))).setCell ⟨w.heap.size, 1, none⟩ (.int .i64 ui)).setCell ⟨w.heap.size, 2, none⟩ (.int .u64 (ua : Int))) := ((HBR.out.grown (only_setCell (World.grownBy.refl wr (some w.heap.size)) 0 (.int .i64 (i : Int))) HBR.out.size (fun k e => by injection e with e; omega)).grown (only_setCell (World.grownBy.refl _ (some w.heap.size)) 1 (.int .i64 ui)) (by rw [size_setCell']; exact HBR.out.size) (fun k e => by injection e with e; omega)).grown (only_setCell (World.grownBy.refl _ (some w.heap.size)) 2 (.int .u64 (ua : Int))) (by rw [size_setCell', size_setCell']; exact HBR.out.size) (fun k e => by injection e with e; omega)
        generalize ((wr.setCell ⟨w.heap.size, 0, none⟩ (.int .i64 (i : Int))).setCell ⟨w.heap.size, 1, none⟩ (.int .i64 ui)).setCell ⟨w.heap.size, 2, none⟩ (.int .u64 (ua : Int)) = w9 at HB4c HBc ⊢
        have HB4d : Blk w9 w.heap.size 73 #[.int .i64 (i : Int), .int .i64 ui, .int .u64 (ua : Int)] := HB4c
        obtain ⟨c0, c1, c2⟩ := HB4d.c3
        refine bodyPost_ret (v := .tuple #[.agg #[.int .i64 (i : Int), .int .i64 ui, .int .u64 (ua : Int)], .bool true]) (by simp [results, Try.results35, go_sem, c0, c1, c2]) rfl ⟨rfl, HBc⟩
end
end Go.Proofs.Ytcocakbopbehjaa
