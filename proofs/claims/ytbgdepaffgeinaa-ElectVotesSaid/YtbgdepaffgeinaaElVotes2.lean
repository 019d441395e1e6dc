/- The law ElectVotes, walked. -/
import Derived.Test.YtbgdepaffgeinaaElAwake
import Derived.Test.YtbgdepaffgeinaaElOps
namespace Go.Proofs.Ytbgdepaffgeinaa
open Go.RowKit
theorem votes_yes {G : GP} (h : G.Law) {a b : Ms} (ha : a ∈ G.msgs) (hb : b ∈ G.msgs) (h1 : a.kind = 2) (h2 : b.kind = 2) (h3 : a.ok = true) (h4 : b.ok = true) (h5 : a.src = b.src) (h6 : a.term = b.term) : a.dst = b.dst :=
  h.one a ha b hb ⟨h1, h3⟩ ⟨h2, h4⟩ h5 h6
set_option maxRecDepth 100000 in
set_option maxHeartbeats 6400000 in
theorem electVotes_any (many : Int) (A : Option Addr) (n c : Nat) (vs : List Value) (B : Option Addr) (m d lo hi : Nat) (os : List (Int × Int)) (w : World) (hn63 : n ≤ 9223372036854775807) (hs : LogsAt w A n c vs) (ho : Sl w lo hi 2 B m d (ocells os)) :
    Calls Try.prog 10 #[.int .i64 many, .slice A n c, .slice B m d] w fun e w' => e = .returned (.bool true) ∧ Below w.heap.size w w' := by
  have hmcap := ho.cap
  have hmmax := ho.max
  have HS := Lib.hid hs
  have HO := Lib.hid ho
  clear hs ho
  go_enter Try.func10, Try.ntmps10
  go_wp2_with fail
  refine (awake11_any w).mono ?_
  rintro e w1 ⟨rfl, hb1⟩
  have HB1 := Lib.hid hb1
  clear hb1
  go_wp2_with fail
  refine (begun_any many A n c vs w1 hn63 (HS.out.after HB1.out)).mono ?_
  rintro e w2 ⟨hb2, ⟨-, rfl⟩ | ⟨hm1, hm5, -, H, g, r0, xs0, E, rfl, hH, hE, hG0⟩⟩
  · go_wp2
    go_ret
    exact ⟨rfl, HB1.out.trans (hb2.mono HB1.out.size)⟩
  have hb12 : Below w.heap.size w w2 := HB1.out.trans (hb2.mono HB1.out.size)
  have HB2 := Lib.hid hb12
  have hF0 := fine_begun hE (show many.toNat ≤ 5 by omega)
  have HF0 := Lib.hid hF0
  have HG0 := Lib.hid hG0
  have hwH : w.heap.size ≤ H := Nat.le_trans HB1.out.size hH
  have HWH := Lib.hid hwH
  clear hb2 hb12 hF0 hG0 hH hE hwH
  by_cases h200 : 200 < m
  · have h200' : (200 : Int) < (m : Int) := by omega
    go_wp2
    go_ret
    exact ⟨rfl, HB2.out⟩
  have h200' : ¬ (200 : Int) < (m : Int) := by omega
  go_wp2
  go_loopw [9] (fun ii wr => ∃ (j : Nat) (r : GR) (xs : List GN) (G : GP), j ≤ m ∧ ii = .int .i64 j ∧ GrpP H wr g r xs G ∧ G.Fine j ∧ Below w.heap.size w wr) (fun ii _ => m - (intOf ii).toNat)
  case atStart => exact ⟨0, _, _, _, Nat.zero_le _, rfl, HG0.out, HF0.out, HB2.out⟩
  case round =>
    obtain ⟨j, r, xs, G, hj, rfl, hG, hF, hbr⟩ := hrel
    have hsl := HO.out.after (by decide) hbr
    have HG := Lib.hid hG
    have HF := Lib.hid hF
    have HBR := Lib.hid hbr
    clear hG hF hbr
    by_cases hjm : j < m
    · have hjm' : (j : Int) < (m : Int) := by omega
      obtain ⟨ad, e, rfl, c0, c1⟩ := hsl.opAt hjm
      clear hsl
      go_wp2_with fail
      refine (play_any j e.1 e.2 wr HG.out HF.out (by omega)).mono ?_
      rintro _ w5 ⟨rfl, ⟨r5, xs5, hG5⟩, hb5⟩
      have HG5 := Lib.hid hG5
      have HB5 := Lib.hid hb5
      clear hG5 hb5 c0 c1
      go_wp2
      go_roundw
      case rel => exact ⟨j + 1, _, _, _, by omega, by first | rfl | go_num, HG5.out, fine_play HF.out _ _, HBR.out.trans (HB5.out.mono HWH.out)⟩
      case measure => simp [intOf]; omega
    · have hjm' : ¬ (j : Int) < (m : Int) := by omega
      clear hsl
      have hlen : G.msgs.length ≤ 10000 := by have := HF.out.msgs; omega
      obtain ⟨wq, hwq⟩ : ∃ wq, wq = wr := ⟨_, rfl⟩
      subst hwq
      have hgb := HG.out.blk
      have hgl := hgb.lt
      have g1 : wq.cell? ⟨g, 1, none⟩ = some r.mv := hgb.cell 1
      obtain ⟨Am, cm, hmv, hsm⟩ := own_sl HG.out.msgs
      rw [hmv] at g1
      have hcap := hsm.cap
      have hmax := hsm.max
      have HSM := Lib.hid hsm
      obtain ⟨nm, hnm⟩ : ∃ nm, G.msgs.length = nm := ⟨_, rfl⟩
      rw [hnm] at g1 HSM hlen hcap
      have HNM := Lib.hid hnm
      have HMV := Lib.hid hmv
      rw [hnm] at HMV
      clear hgb hmv hsm hnm
      go_wp2
      go_loopw [10] (fun ii wr => ∃ k : Nat, k ≤ nm ∧ ii = .int .i64 k ∧ Below wq.heap.size wq wr) (fun ii _ => nm - (intOf ii).toNat)
      case atStart => exact ⟨0, Nat.zero_le _, rfl, Below.refl _ _⟩
      case round =>
        obtain ⟨k, hk, rfl, hbk⟩ := hrel
        have HBK := Lib.hid hbk
        have g1' := cell_below hbk g1
        have hgl' : g ≠ wr.heap.size := by have := hbk.size; omega
        have hsk := HSM.out.after (by decide) hbk
        clear hbk g1
        by_cases hkn : k < nm
        · have hkn' : (k : Int) < (nm : Int) := by omega
          have hgl2 : g < wr.heap.size := by have := HBK.out.size; omega
          obtain ⟨a, hqa⟩ : ∃ a, G.msgs[k]? = some a := ⟨_, List.getElem?_eq_getElem (by rw [HNM.out]; exact hkn)⟩
          obtain ⟨bm, cm', hv', -, -, hc⟩ := HG.out.mrow_ (by rw [HNM.out]; omega)
          obtain ⟨rfl, -, rfl⟩ := (Value.slice.injEq _ _ _ _ _ _).mp (HMV.out.symm.trans hv')
          have hbml : bm < wr.heap.size := by
            have h0 := Addr.mk.injEq bm 0 none bm 0 none
            have := (HG.out.msgs.lt bm (by rw [HMV.out]; rfl)).2
            have := HBK.out.size
            omega
          have HQA := Lib.hid hqa
          have HC := Lib.hid hc
          have m0 := cell_below HBK.out (hc k a hqa 0 _ rfl)
          have m1 := cell_below HBK.out (hc k a hqa 1 _ rfl)
          have m2 := cell_below HBK.out (hc k a hqa 2 _ rfl)
          have m3 := cell_below HBK.out (hc k a hqa 3 _ rfl)
          have m4 := cell_below HBK.out (hc k a hqa 4 _ rfl)
          have m5 := cell_below HBK.out (hc k a hqa 5 _ rfl)
          have m6 := cell_below HBK.out (hc k a hqa 6 _ rfl)
          have m7 := cell_below HBK.out (hc k a hqa 7 _ rfl)
          have m8 := cell_below HBK.out (hc k a hqa 8 _ rfl)
          have m9 := cell_below HBK.out (hc k a hqa 9 _ rfl)
          rw [Nat.add_zero] at m0
          have hn1 : bm ≠ wr.heap.size := by omega
          clear hc hqa hv' hsk
          go_wp2
          have BA := Blk.new wr 81 (mrow a.kind a.src a.dst a.term a.index a.prev (.int .u64 0) a.ok (.slice none 0 0) (.slice none 0 0))
          have A1 : Aft wr (wr.alloc (.cells (mrow a.kind a.src a.dst a.term a.index a.prev (.int .u64 0) a.ok (.slice none 0 0) (.slice none 0 0)) 81)) := (Aft.refl wr).alloc _
          unfold mrow at BA A1
          generalize hwa : wr.alloc (.cells #[.int .i64 a.kind, .int .i64 a.src, .int .i64 a.dst, .int .u64 (a.term : Int), .int .u64 (a.index : Int), .int .u64 (a.prev : Int), .int .u64 0, .bool a.ok, .slice none 0 0, .slice none 0 0] 81) = wa at BA A1 ⊢
          have hgl3 : wr.heap.size < wa.heap.size := BA.lt
          have HBA := Lib.hid BA
          have HA1 := Lib.hid A1
          have g2 := cell_below A1 g1'
          obtain ⟨wx, hwx⟩ : ∃ wx, wx = wr := ⟨_, rfl⟩
          subst hwx
          have hkn2 : k ≤ 10000 := by omega
          clear hwa BA A1 m0 m1 m2 m3 m4 m5 m6 m7 m8 m9 hn1 g1' hgl'
          go_loopw [12] (fun ii wz => ∃ q : Nat, q ≤ k ∧ ii = .int .i64 q ∧ Below wa.heap.size wa wz) (fun ii _ => k - (intOf ii).toNat)
          case atStart => exact ⟨0, Nat.zero_le _, rfl, Below.refl _ _⟩
          case round =>
            obtain ⟨q, hq, rfl, hbq⟩ := hrel
            have HBQ := Lib.hid hbq
            have g3 := cell_below hbq g2
            have ba := HBA.out.after hbq
            have a0 : wr.cell? ⟨wx.heap.size, 0, none⟩ = some (.int .i64 a.kind) := ba.cell 0
            have a1 : wr.cell? ⟨wx.heap.size, 1, none⟩ = some (.int .i64 a.src) := ba.cell 1
            have a2 : wr.cell? ⟨wx.heap.size, 2, none⟩ = some (.int .i64 a.dst) := ba.cell 2
            have a3 : wr.cell? ⟨wx.heap.size, 3, none⟩ = some (.int .u64 (a.term : Int)) := ba.cell 3
            have a7 : wr.cell? ⟨wx.heap.size, 7, none⟩ = some (.bool a.ok) := ba.cell 7
            have hs3 := hbq.size
            have hn1 : bm ≠ wr.heap.size := by omega
            have hn2 : g ≠ wr.heap.size := by omega
            have hn3 : wx.heap.size ≠ wr.heap.size := by omega
            have hn4 : wx.heap.size < wr.heap.size := by omega
            have hbqx : Below wq.heap.size wq wr := (HBK.out.trans (HA1.out.mono HBK.out.size)).trans (hbq.mono (Nat.le_trans HBK.out.size (Nat.le_of_lt hgl3)))
            have HQX := Lib.hid hbqx
            clear ba hbq hbqx
            by_cases hqk : q < k
            · have hqk' : (q : Int) < (k : Int) := by omega
              obtain ⟨b, hqb⟩ : ∃ b, G.msgs[q]? = some b := ⟨_, List.getElem?_eq_getElem (by rw [HNM.out]; omega)⟩
              have HQB := Lib.hid hqb
              have m0 := cell_below HQX.out (HC.out q b hqb 0 _ rfl)
              have m1 := cell_below HQX.out (HC.out q b hqb 1 _ rfl)
              have m2 := cell_below HQX.out (HC.out q b hqb 2 _ rfl)
              have m3 := cell_below HQX.out (HC.out q b hqb 3 _ rfl)
              have m4 := cell_below HQX.out (HC.out q b hqb 4 _ rfl)
              have m5 := cell_below HQX.out (HC.out q b hqb 5 _ rfl)
              have m6 := cell_below HQX.out (HC.out q b hqb 6 _ rfl)
              have m7 := cell_below HQX.out (HC.out q b hqb 7 _ rfl)
              have m8 := cell_below HQX.out (HC.out q b hqb 8 _ rfl)
              have m9 := cell_below HQX.out (HC.out q b hqb 9 _ rfl)
              rw [Nat.add_zero] at m0
              clear hqb
              by_cases c0 : a.kind = 2
              · have e0 : (a.kind == 2) = true := by simp [c0]
                by_cases c1 : b.kind = 2
                · have e1 : (b.kind == 2) = true := by simp [c1]
                  by_cases c2 : a.ok = true
                  · have e2 : a.ok = true := by simp [c2]
                    by_cases c3 : b.ok = true
                    · have e3 : b.ok = true := by simp [c3]
                      by_cases c4 : a.src = b.src
                      · have e4 : (a.src == b.src) = true := by simp [c4]
                        by_cases c5 : a.term = b.term
                        · have e5 : (((a.term : Nat) : Int) == ((b.term : Nat) : Int)) = true := by simp [c5]
                          have e7 : a.dst = b.dst := votes_yes HF.out.law (List.mem_of_getElem? HQA.out) (List.mem_of_getElem? HQB.out) c0 c1 c2 c3 c4 c5
                          have e8 : (a.dst == b.dst) = true := by simp [e7]
                          clear e7 c0 c1 c2 c3 c4 c5
                          go_wp2
                          go_roundw
                          case rel => exact ⟨q + 1, by omega, by first | rfl | go_num, HBQ.out.trans (((Below.refl _ _).alloc (Nat.le_refl _) _).mono HBQ.out.size)⟩
                          case measure => simp [intOf]; omega
                        · have e5 : (((a.term : Nat) : Int) == ((b.term : Nat) : Int)) = false := beq_eq_false_iff_ne.2 (fun h => c5 (by omega))
                          go_wp2
                          go_roundw
                          case rel => exact ⟨q + 1, by omega, by first | rfl | go_num, HBQ.out.trans (((Below.refl _ _).alloc (Nat.le_refl _) _).mono HBQ.out.size)⟩
                          case measure => simp [intOf]; omega
                      · have e4 : (a.src == b.src) = false := by simp [c4]
                        go_wp2
                        go_roundw
                        case rel => exact ⟨q + 1, by omega, by first | rfl | go_num, HBQ.out.trans (((Below.refl _ _).alloc (Nat.le_refl _) _).mono HBQ.out.size)⟩
                        case measure => simp [intOf]; omega
                    · have e3 : b.ok = false := by simp [c3]
                      go_wp2
                      go_roundw
                      case rel => exact ⟨q + 1, by omega, by first | rfl | go_num, HBQ.out.trans (((Below.refl _ _).alloc (Nat.le_refl _) _).mono HBQ.out.size)⟩
                      case measure => simp [intOf]; omega
                  · have e2 : a.ok = false := by simp [c2]
                    go_wp2
                    go_roundw
                    case rel => exact ⟨q + 1, by omega, by first | rfl | go_num, HBQ.out.trans (((Below.refl _ _).alloc (Nat.le_refl _) _).mono HBQ.out.size)⟩
                    case measure => simp [intOf]; omega
                · have e1 : (b.kind == 2) = false := by simp [c1]
                  go_wp2
                  go_roundw
                  case rel => exact ⟨q + 1, by omega, by first | rfl | go_num, HBQ.out.trans (((Below.refl _ _).alloc (Nat.le_refl _) _).mono HBQ.out.size)⟩
                  case measure => simp [intOf]; omega
              · have e0 : (a.kind == 2) = false := by simp [c0]
                go_wp2
                go_roundw
                case rel => exact ⟨q + 1, by omega, by first | rfl | go_num, HBQ.out.trans (((Below.refl _ _).alloc (Nat.le_refl _) _).mono HBQ.out.size)⟩
                case measure => simp [intOf]; omega
            · have hqk' : ¬ (q : Int) < (k : Int) := by omega
              go_wp2
              go_roundw
              case rel => exact ⟨k + 1, by omega, by first | rfl | go_num, HQX.out⟩
              case measure => simp [intOf]; omega
        · have hkn' : ¬ (k : Int) < (nm : Int) := by omega
          clear hsk
          go_wp2
          go_ret
          exact ⟨rfl, HBR.out.trans (HBK.out.mono HBR.out.size)⟩
end Go.Proofs.Ytbgdepaffgeinaa
