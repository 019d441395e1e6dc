/- The law ElectTerms, walked. -/
import Derived.Test.YtbgdepaffgeinaaElAwake
import Derived.Test.YtbgdepaffgeinaaElOps
import Derived.Deep.DeepCutAuto
namespace Go.Proofs.Ytbgdepaffgeinaa
open Go.RowKit
theorem nodes_play (G : GP) (what k : Int) : (G.play what k).nodes.length = G.nodes.length := by
  have hat : ∀ who j, (G.at_ what who j).nodes.length = G.nodes.length := fun who j => by
    unfold GP.at_
    split
    · split
      · exact List.length_set ..
      · rfl
    · rfl
  unfold GP.play
  split
  · split
    · split
      · exact hat _ _
      · rfl
    · rfl
  · exact hat _ _
theorem row_u64 {w : World} {base n k : Nat} {v : Value} {xs : List Nat} (h : w.ownsRow base 22 1 v n (xs.map uv)) (hk : k < n) : ∃ b c t, v = .slice (some ⟨b, 0, none⟩) n c ∧ n ≤ c ∧ c ≤ 9223372036854775807 ∧ xs[k]? = some t ∧ w.cell? ⟨b, k, none⟩ = some (.int .u64 (t : Int)) := by
  obtain ⟨b, c, hv, _, _, hs⟩ := own_at h (by omega)
  obtain ⟨ad, t, e, ht, hc⟩ := hs.nat hk
  injection e with e
  subst e
  rw [addr0] at hc
  exact ⟨b, c, t, hv, hs.cap, hs.max, ht, hc⟩
theorem row_int {w : World} {base n k : Nat} {v : Value} {xs : List Int} (h : w.ownsRow base 3 1 v n (xs.map iv)) (hk : k < n) : ∃ b c t, v = .slice (some ⟨b, 0, none⟩) n c ∧ n ≤ c ∧ c ≤ 9223372036854775807 ∧ xs[k]? = some t ∧ w.cell? ⟨b, k, none⟩ = some (.int .i64 t) := by
  obtain ⟨b, c, hv, _, _, hs⟩ := own_at h (by omega)
  obtain ⟨ad, t, e, ht, hc⟩ := hs.int hk
  injection e with e
  subst e
  rw [addr0] at hc
  exact ⟨b, c, t, hv, hs.cap, hs.max, ht, hc⟩
def termsOf (l : List ND) : List Nat := l.map ND.term
def votesOf (l : List ND) : List Int := l.map ND.vote
theorem take_more {l : List ND} {k : Nat} {x : ND} (h : l[k]? = some x) : l.take (k + 1) = l.take k ++ [x] := by
  rw [List.take_add_one, h]; rfl
set_option maxRecDepth 100000 in
set_option maxHeartbeats 6400000 in
theorem electTerms_any (many : Int) (A : Option Addr) (n c : Nat) (vs : List Value) (B : Option Addr) (m d lo hi : Nat) (os : List (Int × Int)) (w : World) (hn63 : n ≤ 9223372036854775807) (hs : LogsAt w A n c vs) (ho : Sl w lo hi 2 B m d (ocells os)) :
    Calls Try.prog 9 #[.int .i64 many, .slice A n c, .slice B m d] w fun e w' => e = .returned (.bool true) ∧ Below w.heap.size w w' := by
  have hmcap := ho.cap
  have hmmax := ho.max
  have HS := Lib.hid hs
  have HO := Lib.hid ho
  clear hs ho
  go_enter Try.func9, Try.ntmps9
  go_wp2_with fail
  refine (awake11_any w).mono ?_
  rintro e w1 ⟨rfl, hb1⟩
  have HB1 := Lib.hid hb1
  clear hb1
  go_wp2_with fail
  refine (begun_any many A n c vs w1 hn63 (HS.out.after HB1.out)).mono ?_
  rintro e w2 ⟨hb2, ⟨-, rfl⟩ | ⟨hm1, hm5, -, H, g, r0, xs0, E, rfl, hH, hE, hG0⟩⟩
  · go_wp2
    go_ret
    exact ⟨rfl, HB1.out.trans (hb2.mono HB1.out.size)⟩
  have hb12 : Below w.heap.size w w2 := HB1.out.trans (hb2.mono HB1.out.size)
  have HB2 := Lib.hid hb12
  have hF0 := fine_begun hE (show many.toNat ≤ 5 by omega)
  have HF0 := Lib.hid hF0
  have HG0 := Lib.hid hG0
  have hwH : w.heap.size ≤ H := Nat.le_trans HB1.out.size hH
  have HWH := Lib.hid hwH
  clear hb2 hb12 hF0 hG0 hH hE hwH
  by_cases h200 : 200 < m
  · have h200' : (200 : Int) < (m : Int) := by omega
    go_wp2
    go_ret
    exact ⟨rfl, HB2.out⟩
  have h200' : ¬ (200 : Int) < (m : Int) := by omega
  go_wp2
  go_loopw [9] (fun ii wr => ∃ (j : Nat) (r : GR) (xs : List GN) (G : GP), j ≤ m ∧ ii = .int .i64 j ∧ GrpP H wr g r xs G ∧ G.Fine j ∧ Below w.heap.size w wr) (fun ii _ => m - (intOf ii).toNat)
  case atStart => exact ⟨0, _, _, _, Nat.zero_le _, rfl, HG0.out, HF0.out, HB2.out⟩
  case round =>
    obtain ⟨j, r, xs, G, hj, rfl, hG, hF, hbr⟩ := hrel
    have hsl := HO.out.after (by decide) hbr
    have HG := Lib.hid hG
    have HF := Lib.hid hF
    have HBR := Lib.hid hbr
    clear hG hF hbr
    by_cases hjm : j < m
    · have hjm' : (j : Int) < (m : Int) := by omega
      obtain ⟨ad, e, rfl, c0, c1⟩ := hsl.opAt hjm
      clear hsl
      obtain ⟨wq, hwq⟩ : ∃ wq, wq = wr := ⟨_, rfl⟩
      subst hwq
      have hgb := HG.out.blk
      have hgl := hgb.lt
      have g0 : wq.cell? ⟨g, 0, none⟩ = some r.nv := hgb.cell 0
      obtain ⟨A0, cn, hnv, -⟩ := own_sl HG.out.nodes
      have hN5 := HF.out.bd.few
      obtain ⟨N, hN⟩ : ∃ N, G.nodes.length = N := ⟨_, rfl⟩
      rw [HG.out.len, hN] at hnv
      rw [hnv] at g0
      rw [hN] at hN5
      have HN := Lib.hid hN
      have HNV := Lib.hid hnv
      obtain ⟨i0, hi0, hz0, hz1, hz2⟩ := info_parts int_info
      obtain ⟨j0, hj0, hy0, hy1, hy2⟩ := info_parts u64_info
      have HC0 := Lib.hid c0
      have HC1 := Lib.hid c1
      clear hgb hnv hN c0 c1
      go_wp2
      go_loopw [10, 11, 12] (fun wv vv ii wr => ∃ k : Nat, k ≤ N ∧ ii = .int .i64 k ∧ wr.ownsRow wq.heap.size 22 1 wv k ((termsOf (G.nodes.take k)).map uv) ∧ wr.ownsRow wq.heap.size 3 1 vv k ((votesOf (G.nodes.take k)).map iv) ∧ Below wq.heap.size wq wr) (fun _ _ ii _ => N - (intOf ii).toNat)
      case atStart => exact ⟨0, Nat.zero_le _, rfl, World.ownsRow_nil _ _ _ _, World.ownsRow_nil _ _ _ _, Below.refl _ _⟩
      case round =>
        obtain ⟨k, hk, rfl, hwas, hvot, hbk⟩ := hrel
        have HWAS := Lib.hid hwas
        have HVOT := Lib.hid hvot
        have HBK := Lib.hid hbk
        have g1 := cell_below hbk g0
        have hs1 := hbk.size
        obtain ⟨Aw, cw, hwv, -⟩ := own_sl hwas
        obtain ⟨Av, cv, hvv, -⟩ := own_sl hvot
        subst hwv hvv
        clear hwas hvot hbk g0
        by_cases hkN : k < N
        · have hkN' : (k : Int) < (N : Int) := by omega
          obtain ⟨bn, cn', hv', hcap, hmax, hat⟩ := (HG.out.after HBK.out).nrow (by rw [HN.out]; omega)
          rw [HN.out, HNV.out] at hv'
          obtain ⟨rfl, -, rfl⟩ := (Value.slice.injEq _ _ _ _ _ _).mp hv'
          obtain ⟨x, hx⟩ : ∃ x, G.nodes[k]? = some x := ⟨_, List.getElem?_eq_getElem (by rw [HN.out]; exact hkN)⟩
          obtain ⟨b, P, O, cp, hNx⟩ := hat k x hx
          rw [HN.out] at hcap
          have hB := hNx.blk
          have x6 : wr.cell? ⟨b, 6, none⟩ = some (.int .u64 (x.term : Int)) := hB.cell 6
          have hbl := hB.lt
          have hbnl : bn < wr.heap.size := World.block_lt_of_cell? wr ⟨bn, k, none⟩ cp
          have hgl2 : g < wr.heap.size := by omega
          have HX := Lib.hid hx
          have HB := Lib.hid hB
          have HCP := Lib.hid cp
          have HG1 := Lib.hid g1
          clear hat hv' hNx hB hx
          go_upto_region 14 with (at_builtin; refine wpList_app _ rfl (.tmp 42) (.tmp 53) 70 rfl wq.heap.size 22 j0 _ 1 8 Try.underlying70 hj0 hy0 hy1 hy2 rfl (by omega) (.slice Aw k cw) k ((termsOf (G.nodes.take k)).map uv) rfl (by exact own_alloc' HWAS.out _) wr.heap.size (wr.heap.size + 1) (some ⟨wr.heap.size, 0, none⟩) 1 1 [.int .u64 (x.term : Int)] rfl (by exact sl_one _ _ _) (by intro u hu; rw [List.mem_singleton.1 hu]; rfl) (by simp only [maxLen]; omega) (by omega) (by simp; omega) ?_; intro v4 w4 o4 g4 a4)
          have hlow : ∀ b', (Value.slice Aw k cw).ownBlock = some b' → wq.heap.size ≤ b' := fun b' hb' => (HWAS.out.lt b' hb').1
          have hb4 : Below wq.heap.size wq w4 := (HBK.out.alloc HBK.out.size _).grown g4 (by simp; omega) hlow
          have HB4 := Lib.hid hb4
          have hvot4 : w4.ownsRow wq.heap.size 3 1 (.slice Av k cv) k ((votesOf (G.nodes.take k)).map iv) := own_after_grown (own_alloc' HVOT.out _) g4 (fun b' hb' e => row_ne_row HVOT.out HWAS.out (by decide) b' hb' e)
          have HVOT4 := Lib.hid hvot4
          have HO4 := Lib.hid o4
          have hgb4 : w4.cell? ⟨g, 0, none⟩ = some (.slice (some ⟨bn, 0, none⟩) N cn) := cell_below hb4 (by have := HG.out.blk.cell 0; rw [show r.cells[0]? = some r.nv from rfl, HNV.out] at this; exact this)
          obtain ⟨bn2, cn2, hv2, -, -, hat2⟩ := (HG.out.after hb4).nrow (by rw [HN.out]; omega)
          rw [HN.out, HNV.out] at hv2
          obtain ⟨e1, -, -⟩ := (Value.slice.injEq _ _ _ _ _ _).mp hv2
          injection e1 with e1
          injection e1 with e1
          subst e1
          obtain ⟨b2, P2, O2, cp2, hNx2⟩ := hat2 k x HX.out
          have y1 : w4.cell? ⟨b2, 1, none⟩ = some (.int .i64 x.vote) := hNx2.blk.cell 1
          have hb2l := hNx2.blk.lt
          have hbnl2 : bn < w4.heap.size := World.block_lt_of_cell? w4 ⟨bn, k, none⟩ cp2
          have hgl4 : g < w4.heap.size := World.block_lt_of_cell? w4 ⟨g, 0, none⟩ hgb4
          have hs4 := hb4.size
          obtain ⟨A4, c4, hv4, -⟩ := own_sl o4
          subst hv4
          clear hat2 hv2 hNx2 hvot4 o4 g4 a4 hb4 hlow x6 cp g1
          go_wp2_with (at_builtin; refine wpList_app _ rfl (.tmp 55) (.tmp 66) 51 rfl wq.heap.size 3 i0 _ 1 8 Try.underlying51 hi0 hz0 hz1 hz2 rfl (by omega) (.slice Av k cv) k ((votesOf (G.nodes.take k)).map iv) rfl (by exact own_alloc' HVOT4.out _) w4.heap.size (w4.heap.size + 1) (some ⟨w4.heap.size, 0, none⟩) 1 1 [.int .i64 x.vote] rfl (by exact sl_one _ _ _) (by intro u hu; rw [List.mem_singleton.1 hu]; rfl) (by simp only [maxLen]; omega) (by omega) (by simp; omega) ?_; intro v5 w5 o5 g5 a5)
          have hlow : ∀ b', (Value.slice Av k cv).ownBlock = some b' → wq.heap.size ≤ b' := fun b' hb' => (HVOT4.out.lt b' hb').1
          have hwas5 : w5.ownsRow wq.heap.size 22 1 (.slice A4 (k + 1) c4) (k + 1) ((termsOf (G.nodes.take k)).map uv ++ [.int .u64 (x.term : Int)]) := own_after_grown (own_alloc' HO4.out _) g5 (fun b' hb' e => row_ne_row HO4.out HVOT4.out (by decide) b' hb' e)
          have hb5 : Below wq.heap.size wq w5 := (HB4.out.alloc HB4.out.size _).grown g5 (by simp; omega) hlow
          go_roundw
          case rel => exact ⟨k + 1, by omega, by first | rfl | go_num, by rw [take_more HX.out]; unfold termsOf; rw [List.map_append, List.map_append]; exact hwas5, by rw [take_more HX.out]; unfold votesOf; rw [List.map_append, List.map_append]; exact o5, hb5⟩
          case measure => simp [intOf]; omega
        · have hkN' : ¬ (k : Int) < (N : Int) := by omega
          obtain rfl : N = k := by omega
          obtain ⟨wp, hwp⟩ : ∃ wp, wp = wr := ⟨_, rfl⟩
          subst hwp
          have htk : G.nodes.take N = G.nodes := List.take_of_length_le (by rw [HN.out]; exact Nat.le_refl _)
          rw [htk] at HWAS HVOT
          have d0 := cell_below HBK.out HC0.out
          have d1 := cell_below HBK.out HC1.out
          clear hk hkN
          go_wp2_with fail
          refine (play_chg j e.1 e.2 wp (HG.out.after HBK.out) HF.out (by omega)).mono ?_
          rintro _ w5 ⟨rfl, ⟨r5, xs5, hG5⟩, hC5⟩
          have hwas5 := own_chg HWAS.out hC5 (fun b hb hO => by have := (HWAS.out.lt b hb).1; have := (HG.out.own_low b hO).2; omega)
          have hvot5 := own_chg HVOT.out hC5 (fun b hb hO => by have := (HVOT.out.lt b hb).1; have := (HG.out.own_low b hO).2; omega)
          have hH5 : Below H wp w5 := hC5.toBelow (fun b hO => (HG.out.own_low b hO).1) (Nat.le_trans (Nat.le_trans HG.out.hg (Nat.le_of_lt HG.out.blk.lt)) HBK.out.size)
          have hw5 : Below w.heap.size w w5 := (HBR.out.trans (HBK.out.mono HBR.out.size)).trans (hH5.mono HWH.out)
          have HF5 := Lib.hid (fine_play HF.out e.1 e.2)
          have HNP : Hid ((G.play e.1 e.2).nodes.length = N) := (nodes_play G e.1 e.2).trans HN.out
          have HRI : Hid (∀ q x, G.nodes[q]? = some x → ∃ y, (G.play e.1 e.2).nodes[q]? = some y ∧ Rises x y) := fun q x hx => rises_play G e.1 e.2 q x hx
          obtain ⟨G1, hG1⟩ : ∃ G1, G.play e.1 e.2 = G1 := ⟨_, rfl⟩
          rw [hG1] at hG5 HF5 HNP HRI
          have hgb5 := hG5.blk
          have g5 : w5.cell? ⟨g, 0, none⟩ = some r5.nv := hgb5.cell 0
          obtain ⟨A5, c5, hnv5, -⟩ := own_sl hG5.nodes
          rw [hG5.len, HNP.out] at hnv5
          rw [hnv5] at g5
          have HNV5 := Lib.hid hnv5
          have HG5 := Lib.hid hG5
          have HW5 := Lib.hid hw5
          have HWAS5 := Lib.hid hwas5
          have HVOT5 := Lib.hid hvot5
          clear hG1 hgb5 hnv5 hG5 hw5 hH5 hC5 hwas5 hvot5 d0 d1 HWAS HVOT
          go_wp2
          go_loopw [13] (fun ii wr => ∃ k : Nat, k ≤ N ∧ ii = .int .i64 k ∧ Below w5.heap.size w5 wr) (fun ii _ => N - (intOf ii).toNat)
          case atStart => exact ⟨0, Nat.zero_le _, rfl, Below.refl _ _⟩
          case round =>
            obtain ⟨k, hk, rfl, hbk⟩ := hrel
            have HB6 := Lib.hid hbk
            have g6 := cell_below hbk g5
            clear hbk g5
            by_cases hkN : k < N
            · have hkN' : (k : Int) < (N : Int) := by omega
              obtain ⟨bn, cn', hv', hcap, hmax, hat⟩ := (HG5.out.after HB6.out).nrow (by rw [HNP.out]; omega)
              rw [HNP.out, HNV5.out] at hv'
              obtain ⟨rfl, -, rfl⟩ := (Value.slice.injEq _ _ _ _ _ _).mp hv'
              obtain ⟨x, hx⟩ : ∃ x, G.nodes[k]? = some x := ⟨_, List.getElem?_eq_getElem (by rw [HN.out]; exact hkN)⟩
              obtain ⟨y, hy, hr⟩ := HRI.out k x hx
              obtain ⟨b, P, O, cp, hNy⟩ := hat k y hy
              rw [HNP.out] at hcap
              have y6 : wr.cell? ⟨b, 6, none⟩ = some (.int .u64 (y.term : Int)) := hNy.blk.cell 6
              have y1 : wr.cell? ⟨b, 1, none⟩ = some (.int .i64 y.vote) := hNy.blk.cell 1
              obtain ⟨bw, cw', t, hvw, hcw, hmw, ht, cw⟩ := row_u64 (own_after HWAS5.out HB6.out) hkN
              obtain ⟨bv, cv', t', hvv, hcv, hmv, ht', cv⟩ := row_int (own_after HVOT5.out HB6.out) hkN
              obtain ⟨rfl, -, rfl⟩ := (Value.slice.injEq _ _ _ _ _ _).mp hvw
              obtain ⟨rfl, -, rfl⟩ := (Value.slice.injEq _ _ _ _ _ _).mp hvv
              obtain rfl : t = x.term := by unfold termsOf at ht; rw [List.getElem?_map, hx] at ht; injection ht with ht; exact ht.symm
              obtain rfl : t' = x.vote := by unfold votesOf at ht'; rw [List.getElem?_map, hx] at ht'; injection ht' with ht'; exact ht'.symm
              have hkmax : k ≤ 5 := by omega
              clear hat hv' hNy hx hy hvw hvv ht ht'
              unfold Rises at hr
              by_cases hlt : x.term < y.term
              · obtain ⟨z1, hz1⟩ : ∃ z : Int, (y.term : Int) = z := ⟨_, rfl⟩
                obtain ⟨z2, hz2⟩ : ∃ z : Int, (x.term : Int) = z := ⟨_, rfl⟩
                rw [hz1] at y6
                rw [hz2] at cw
                have e1 : decide (z1 < z2) = false := decide_eq_false (by omega)
                have e2 : (z1 == z2) = false := beq_eq_false_iff_ne.2 (by omega)
                clear hr hlt hz1 hz2
                go_wp2
                go_quiet (fail)
                go_wp2
                go_roundw
                case rel => exact ⟨k + 1, by omega, by first | rfl | go_num, below_drewN HB6.out _⟩
                case measure => simp [intOf]; omega
              · have heq : x.term = y.term := by rcases hr with h | h; exact absurd h hlt; exact h.1
                have hvo : x.vote = -1 ∨ y.vote = x.vote := by rcases hr with h | h; exact absurd h hlt; exact h.2
                rw [heq] at cw
                obtain ⟨z, hz⟩ : ∃ z : Int, (y.term : Int) = z := ⟨_, rfl⟩
                rw [hz] at cw y6
                have e1 : decide (z < z) = false := by simp
                have e2 : (z == z) = true := by simp
                clear hr hlt heq hz
                by_cases hm1 : x.vote = -1
                · rw [hm1] at cv
                  clear hvo hm1
                  go_wp2
                  go_quiet (fail)
                  go_wp2
                  go_roundw
                  case rel => exact ⟨k + 1, by omega, by first | rfl | go_num, below_drewN HB6.out _⟩
                  case measure => simp [intOf]; omega
                · have hve : y.vote = x.vote := hvo.resolve_left hm1
                  rw [hve] at y1
                  have e3 : (x.vote != -1) = true := bne_iff_ne.2 hm1
                  have e5 : (x.vote == -1) = false := beq_eq_false_iff_ne.2 hm1
                  have e4 : (x.vote == x.vote) = true := by simp
                  clear hvo hm1 hve
                  go_wp2
                  go_quiet (fail)
                  go_wp2
                  go_roundw
                  case rel => exact ⟨k + 1, by omega, by first | rfl | go_num, below_drewN HB6.out _⟩
                  case measure => simp [intOf]; omega
            · have hkN' : ¬ (k : Int) < (N : Int) := by omega
              go_wp2
              go_roundw
              case rel => exact ⟨j + 1, _, _, _, by omega, by first | rfl | go_num, HG5.out.after HB6.out, HF5.out, HW5.out.trans (HB6.out.mono HW5.out.size)⟩
              case measure => simp [intOf]; omega
    · have hjm' : ¬ (j : Int) < (m : Int) := by omega
      clear hsl
      go_wp2
      go_ret
      exact ⟨rfl, HBR.out⟩
end Go.Proofs.Ytbgdepaffgeinaa
