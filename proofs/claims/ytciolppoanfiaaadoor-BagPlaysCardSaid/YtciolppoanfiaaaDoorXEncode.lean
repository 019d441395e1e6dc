import Derived.Test.YtciolppoanfiaaaDoorPEnc
import Derived.Deep.RegionHeld3
import Derived.Deep.RegionWith
import Derived.Deep.DeepCutAuto
namespace Go.Proofs.YtciolppoanfiaaaDoor
open Go.RowKit

theorem nums_cell {w : World} {g : Nat} {ns : List Nat} (h : Blk w g 38 ((ns.map fun n : Nat => Value.int .u64 (n : Int)).toArray)) {j x : Nat} (hx : ns[j]? = some x) : w.cell? ⟨g, j, none⟩ = some (.int .u64 (x : Int)) := by
  rw [h.cell j, List.getElem?_toArray, List.getElem?_map, hx]; rfl
theorem wrap_u {n : Nat} (h : n < 256) : IntKind.u64.wrap ((n : Nat) : Int) = (n : Int) := by rw [IntKind.wrap_u64]; omega
set_option maxRecDepth 100000 in
set_option maxHeartbeats 8000000 in
theorem encode_ok (kn fn tn te ix pr co : Nat) (ok : Bool) (dA : Option Addr) (dc : Nat) (d : List UInt8) (eA : Option Addr) (ec : Nat) (es : List Ent) (w : World)
    (hm : IsMsg w ⟨(kn : Int), (fn : Int), (tn : Int), te, ix, pr, co, ok, dA, dc, d, eA, ec, es⟩) (h0 : checkF (kn : Int) (fn : Int) (tn : Int) d.length es = 0) :
    Calls Tryd.prog 24 #[.agg #[.int .i64 (kn : Int), .int .i64 (fn : Int), .int .i64 (tn : Int), .int .u64 (te : Int), .int .u64 (ix : Int), .int .u64 (pr : Int), .int .u64 (co : Int), .bool ok, .slice dA d.length dc, .slice eA es.length ec]] w fun e w' =>
      ∃ v n, e = .returned (.tuple #[v, .int .i64 0]) ∧ w'.ownsRow w.heap.size 5 1 v n ((PMsg.enc ⟨(kn : Int), (fn : Int), (tn : Int), te, ix, pr, co, ok, d, es.map Ent.key⟩).map bv) ∧ Below w.heap.size w w' := by
  have hR := right_of h0
  obtain ⟨⟨dlo, dhi, hsd⟩, ⟨elo, ehi, hse⟩, hed⟩ := hm
  simp only at hsd hse hed
  obtain ⟨dn, hdn⟩ : ∃ n, d.length = n := ⟨_, rfl⟩
  obtain ⟨n, hn⟩ : ∃ n, es.length = n := ⟨_, rfl⟩
  rw [hdn] at h0 hsd ⊢
  rw [hn] at hse ⊢
  have hd7 := hR.d
  have hn8 := hR.n
  rw [hdn] at hd7
  rw [hn] at hn8
  have hk2 := hR.k2
  have hf2 := hR.f2
  have ht2 := hR.t2
  have HDN := Lib.hid hdn
  have HN := Lib.hid hn
  have HR := Lib.hid hR
  clear hdn hn hR
  have hcapd := hsd.cap
  have hmaxd := hsd.max
  have hcape := hse.cap
  have hmaxe := hse.max
  have hchk := check_any (kn : Int) (fn : Int) (tn : Int) te ix pr co ok dA dn dc eA n ec elo ehi es _ (hse.alloc (by decide) (.cells #[.int .i64 (kn : Int), .int .i64 (fn : Int), .int .i64 (tn : Int), .int .u64 (te : Int), .int .u64 (ix : Int), .int .u64 (pr : Int), .int .u64 (co : Int), .bool ok, .slice dA dn dc, .slice eA n ec] 41)) (by omega)
  rw [h0] at hchk
  have HC := Lib.hid hchk
  clear hchk h0
  go_enter Tryd.func24, Tryd.ntmps24
  go_wp2_with fail
  refine HC.out.mono ?_
  rintro e w1 ⟨rfl, hb1⟩
  have MB := (Blk.new w 41 #[.int .i64 (kn : Int), .int .i64 (fn : Int), .int .i64 (tn : Int), .int .u64 (te : Int), .int .u64 (ix : Int), .int .u64 (pr : Int), .int .u64 (co : Int), .bool ok, .slice dA dn dc, .slice eA n ec]).after hb1
  have D1 := below_boxed hb1
  have SE := Lib.hid (hse.now (by decide))
  have SD := Lib.hid (hsd.now (by decide))
  have HED : Hid (∀ e ∈ es, BytesIn w 0 w.heap.size (.slice e.A e.l.length e.c) e.l) := fun e he => (hed e he).now
  have hg1 : w.heap.size < w1.heap.size := MB.lt
  clear hb1 HC hse hsd hed
  obtain ⟨x0, x1, x2, x3, x4, x5, x6, x7, x8, x9⟩ := MB.c10
  have q1 := wrap_u (n := kn) (by omega)
  have q2 := wrap_u (n := fn) (by omega)
  have q3 := wrap_u (n := tn) (by omega)
  go_wp2_with fail
  have WB := Blk.new w1 73 #[.slice none 0 0]
  have MB2 := MB.alloc (.cells #[.slice none 0 0] 73)
  have D2 := below_alloc' D1 (.cells #[.slice none 0 0] 73) (Nat.le_refl _)
  have hgB : (w1.alloc (.cells #[.slice none 0 0] 73)).heap.size = w1.heap.size + 1 := by simp
  clear x0 x1 x2 x3 x4 x5 x6 x7 x8 x9
  generalize w1.alloc (.cells #[.slice none 0 0] 73) = wB at WB MB2 D2 hgB ⊢
  obtain ⟨x0, x1, x2, x3, x4, x5, x6, x7, x8, x9⟩ := MB2.c10
  go_cut [29, 30, 31] (fun a b c wc => a = .slice (some ⟨w1.heap.size + 1, 0, none⟩) 4 4 ∧ b = .int .i64 4 ∧ c = .int .i64 0 ∧ Blk wc (w1.heap.size + 1) 38 (([kn, fn, tn, ok.toNat].map fun n : Nat => Value.int .u64 (n : Int)).toArray) ∧ Below wB.heap.size wB wc)
  case first =>
    go_region_held3 (fun W' => W'.cell? ⟨w.heap.size, 0, none⟩ = some (.int .i64 (kn : Int)) ∧ W'.cell? ⟨w.heap.size, 1, none⟩ = some (.int .i64 (fn : Int)) ∧ W'.cell? ⟨w.heap.size, 2, none⟩ = some (.int .i64 (tn : Int)) ∧ W'.cell? ⟨w.heap.size, 7, none⟩ = some (.bool ok)) (first | exact ⟨x0, x1, x2, x7⟩ | go_keep) (first | (go_at_call 59; refine (truth_any _ _).mono ?_; rintro e w' ⟨rfl, rfl⟩))
    go_wp2
    go_meet
    refine ⟨rfl, rfl, rfl, ?_, ((Below.refl wB.heap.size wB).alloc (Nat.le_refl _) _).drew⟩
    have := (Blk.new wB 38 (([kn, fn, tn, ok.toNat].map fun n : Nat => Value.int .u64 (n : Int)).toArray)).drew
    rw [hgB] at this
    exact this
  case rest =>
    obtain ⟨rfl, rfl, rfl, LB, DB⟩ := hcut
    have W3 := WB.after DB
    have MB3 := MB2.after DB
    have D3 := D2.trans (DB.mono D2.size)
    have hsz := LB.lt
    clear WB MB2 D2 DB x0 x1 x2 x3 x4 x5 x6 x7 x8 x9 q1 q2 q3 D1 MB
    go_wp2
    go_loopw [31] (fun i wr => ∃ j : Nat, j ≤ 4 ∧ i = .int .i64 j ∧ (∃ v', Blk wr w1.heap.size 73 #[v'] ∧ wr.ownsRow (w1.heap.size + 1) 5 1 v' j ((nums ([kn, fn, tn, ok.toNat].take j) 1).map bv)) ∧ Below w.heap.size w wr ∧ Kt wc wr) (fun i _ => 4 - (intOf i).toNat)
    case atStart => exact ⟨0, by omega, rfl, ⟨_, W3, by simpa [nums] using World.ownsRow_nil _ _ _ _⟩, D3, Kt.refl _⟩
    case round =>
      obtain ⟨j, hj, rfl, ⟨v', Wr, Or⟩, Dr, Kr⟩ := hrel
      by_cases hlt : j < 4
      · obtain ⟨x, hx⟩ : ∃ x, ([kn, fn, tn, ok.toNat] : List Nat)[j]? = some x := ⟨_, List.getElem?_eq_getElem (by simpa using hlt)⟩
        have c0 : wr.cell? ⟨w1.heap.size + 1, j, none⟩ = some (.int .u64 (x : Int)) := nums_cell (LB.kt Kr (by decide) (by decide)) hx
        have HNS := Lib.hid (nums_snoc _ 1 j x hx)
        clear hx W3 MB3 D3
        go_wp2_with fail
        refine (wnum2_any w1.heap.size j x 1 v' _ _ Wr Or (by omega) (by omega) (by omega)).mono ?_
        rintro e w5 ⟨rfl, v5, W5, O5, B5, K5⟩
        go_wp2
        go_roundw
        case rel => exact ⟨j + 1, by omega, by go_num, ⟨v5, W5, by rw [HNS.out, List.map_append]; exact O5⟩, Dr.trans (B5.mono (by omega)), Kr.trans K5⟩
        case measure => simp [intOf]; omega
      · obtain rfl : j = 4 := by omega
        have MB4 := MB3.kt Kr (by decide) (by decide)
        rw [List.take_of_length_le (by simp)] at Or
        obtain ⟨L1, hL1⟩ : ∃ L, nums [kn, fn, tn, ok.toNat] 1 = L := ⟨_, rfl⟩
        rw [hL1] at Or
        have HL1 := Lib.hid hL1
        clear hL1 W3 MB3 D3 LB Kr
        obtain ⟨x0, x1, x2, x3, x4, x5, x6, x7, x8, x9⟩ := MB4.c10
        have hwl := Wr.lt
        go_wp2
        have L2 : Blk (wr.alloc (.cells #[.int .u64 (te : Int), .int .u64 (ix : Int), .int .u64 (pr : Int), .int .u64 (co : Int)] 38)) wr.heap.size 38 (([te, ix, pr, co].map fun n : Nat => Value.int .u64 (n : Int)).toArray) := Blk.new wr 38 #[.int .u64 (te : Int), .int .u64 (ix : Int), .int .u64 (pr : Int), .int .u64 (co : Int)]
        have W6 := Wr.alloc (.cells #[.int .u64 (te : Int), .int .u64 (ix : Int), .int .u64 (pr : Int), .int .u64 (co : Int)] 38)
        have O6 := Or.alloc (.cells #[.int .u64 (te : Int), .int .u64 (ix : Int), .int .u64 (pr : Int), .int .u64 (co : Int)] 38)
        have D6 := below_alloc' Dr (.cells #[.int .u64 (te : Int), .int .u64 (ix : Int), .int .u64 (pr : Int), .int .u64 (co : Int)] 38) (Nat.le_refl _)
        have MB6 := MB4.alloc (.cells #[.int .u64 (te : Int), .int .u64 (ix : Int), .int .u64 (pr : Int), .int .u64 (co : Int)] 38)
        clear Wr Or Dr MB4 x0 x1 x2 x3 x4 x5 x6 x7 x8 x9
        generalize wr.alloc (.cells #[.int .u64 (te : Int), .int .u64 (ix : Int), .int .u64 (pr : Int), .int .u64 (co : Int)] 38) = wd at L2 W6 O6 D6 MB6 ⊢
        obtain ⟨g2, hg2⟩ : ∃ g2, wr.heap.size = g2 := ⟨_, rfl⟩
        rw [hg2] at L2 ⊢
        have hwd := L2.lt
        clear hg2 hwl
        go_loopw [48] (fun i wr => ∃ j : Nat, j ≤ 4 ∧ i = .int .i64 j ∧ (∃ v', Blk wr w1.heap.size 73 #[v'] ∧ wr.ownsRow (w1.heap.size + 1) 5 1 v' (4 + j * 8) ((L1 ++ nums ([te, ix, pr, co].take j) 8).map bv)) ∧ Below w.heap.size w wr ∧ Kt wd wr) (fun i _ => 4 - (intOf i).toNat)
        case atStart => exact ⟨0, by omega, rfl, ⟨_, W6, by simpa [nums] using O6⟩, D6, Kt.refl _⟩
        case round =>
          obtain ⟨j, hj, rfl, ⟨v', Wr, Or⟩, Dr, Kr⟩ := hrel
          by_cases hlt : j < 4
          · obtain ⟨x, hx⟩ : ∃ x, ([te, ix, pr, co] : List Nat)[j]? = some x := ⟨_, List.getElem?_eq_getElem (by simpa using hlt)⟩
            have c0 := nums_cell (L2.kt Kr (by decide) (by decide)) hx
            have HNS := Lib.hid (nums_snoc _ 8 j x hx)
            clear hx W6 MB6 D6 O6
            go_wp2_with fail
            refine (wnum2_any w1.heap.size (4 + j * 8) x 8 v' _ _ Wr Or (by omega) (by omega) (by omega)).mono ?_
            rintro e w5 ⟨rfl, v5, W5, O5, B5, K5⟩
            go_wp2
            go_roundw
            case rel =>
              have fin : ∃ j' : Nat, j' ≤ 4 ∧ Value.int .i64 ((j : Int) + 1) = .int .i64 j' ∧ (∃ v', Blk w5 w1.heap.size 73 #[v'] ∧ w5.ownsRow (w1.heap.size + 1) 5 1 v' (4 + j' * 8) ((L1 ++ nums ([te, ix, pr, co].take j') 8).map bv)) ∧ Below w.heap.size w w5 ∧ Kt wd w5 :=
                ⟨j + 1, by omega, by go_num, ⟨v5, W5, by rw [HNS.out, ← List.append_assoc, List.map_append, show 4 + (j + 1) * 8 = 4 + j * 8 + 8 by omega]; exact O5⟩, Dr.trans (B5.mono (by omega)), Kr.trans K5⟩
              first | exact fin | exact ⟨_, fin, rfl⟩ | exact ⟨_, _, fin, rfl⟩ | exact ⟨_, _, _, fin, rfl⟩ | exact ⟨_, _, _, _, fin, rfl⟩ | exact ⟨_, _, _, _, _, fin, rfl⟩ | exact ⟨_, _, _, _, _, _, fin, rfl⟩ | exact ⟨_, _, _, _, _, _, _, fin, rfl⟩ | exact ⟨_, _, _, _, _, _, _, _, fin, rfl⟩ | exact ⟨_, _, _, _, _, _, _, _, _, fin, rfl⟩ | exact ⟨_, _, _, _, _, _, _, _, _, _, fin, rfl⟩ | exact ⟨_, _, _, _, _, _, _, _, _, _, _, fin, rfl⟩ | exact ⟨_, _, _, _, _, _, _, _, _, _, _, _, fin, rfl⟩ | exact ⟨_, _, _, _, _, _, _, _, _, _, _, _, _, fin, rfl⟩
            case measure => simp [intOf]; omega
          · obtain rfl : j = 4 := by omega
            have MB7 := MB6.kt Kr (by decide) (by decide)
            rw [List.take_of_length_le (by simp)] at Or
            obtain ⟨L3, hL3⟩ : ∃ L, L1 ++ nums [te, ix, pr, co] 8 = L := ⟨_, rfl⟩
            rw [hL3] at Or
            have HL3 := Lib.hid hL3
            clear hL3 W6 MB6 D6 O6 L2 Kr
            obtain ⟨x0, x1, x2, x3, x4, x5, x6, x7, x8, x9⟩ := MB7.c10
            have hwl := Wr.lt
            have SD1 := (SD.out.below Dr (Nat.le_refl _)).bytesIn
            go_wp2_with fail
            refine (wbytes2_any w1.heap.size (4 + 4 * 8) v' (.slice dA dn dc) _ d _ Wr Or SD1 (by omega) (by have := HDN.out; omega) (by have := HDN.out; omega)).mono ?_
            rintro e w6 ⟨rfl, v6, W8, O8, B8, K8⟩
            have MB8 := MB7.kt K8 (by decide) (by decide)
            have D8 := Dr.trans (B8.mono (by omega))
            rw [HDN.out, ← List.map_append] at O8
            clear Wr Or Dr MB7 SD1 K8 B8 x0 x1 x2 x3 x4 x5 x6 x7 x8 x9
            obtain ⟨x0, x1, x2, x3, x4, x5, x6, x7, x8, x9⟩ := MB8.c10
            have hwn := wrap_u (n := n) (by omega)
            go_wp2_with fail
            refine (wnum2_any w1.heap.size (4 + 4 * 8 + (dn + 2)) n 1 v6 _ _ W8 O8 (by omega) (by omega) (by omega)).mono ?_
            rintro e w7 ⟨rfl, v7, W9, O9, B9, K9⟩
            have MB9 := MB8.kt K9 (by decide) (by decide)
            have D9 := D8.trans (B9.mono (by omega))
            rw [← List.map_append] at O9
            obtain ⟨P, hP⟩ : ∃ L, L3 ++ bytesF d ++ num n 1 = L := ⟨_, rfl⟩
            rw [hP] at O9
            have HP := Lib.hid hP
            clear hP W8 O8 MB8 D8 K9 B9 x0 x1 x2 x3 x4 x5 x6 x7 x8 x9
            obtain ⟨x0, x1, x2, x3, x4, x5, x6, x7, x8, x9⟩ := MB9.c10
            obtain ⟨N0, hN0⟩ : ∃ N0, 4 + 4 * 8 + (dn + 2) + 1 = N0 := ⟨_, rfl⟩
            rw [hN0] at O9
            have hN0b : N0 ≤ 745 := by omega
            clear hN0
            go_wp2
            go_loopw [66] (fun i wr => ∃ j t : Nat, j ≤ n ∧ i = .int .i64 j ∧ t ≤ 745 + j * 35 ∧ (∃ v', Blk wr w1.heap.size 73 #[v'] ∧ wr.ownsRow (w1.heap.size + 1) 5 1 v' t ((P ++ encKs ((es.map Ent.key).take j)).map bv)) ∧ Below w.heap.size w wr) (fun i _ => n - (intOf i).toNat)
            case atStart => exact ⟨0, N0, Nat.zero_le _, rfl, by omega, ⟨_, W9, by simpa [encKs] using O9⟩, D9⟩
            case round =>
              obtain ⟨j, t, hj, rfl, ht, ⟨v', Wr, Or⟩, Dr⟩ := hrel
              clear W9 O9 MB9 D9 x0 x1 x2 x3 x4 x5 x6 x7 x8 x9
              by_cases hlt : j < n
              · obtain ⟨ad, y, rfl, hy, c0, c1, c2⟩ := (SE.out.below Dr (Nat.le_refl _)).ent hlt
                have hmem := List.mem_of_getElem? hy
                have hyl := HR.out.l y hmem
                have hy1 := HR.out.e1 y hmem
                have hy2 := HR.out.e2 y hmem
                have hkey : (es.map Ent.key)[j]? = some y.key := by rw [List.getElem?_map, hy]; rfl
                have HKS := Lib.hid (encKs_snoc _ j _ hkey)
                have hyd := HED.out y hmem
                obtain ⟨yt, yk, yA, yc, yl⟩ := y
                simp only [Ent.key] at HKS
                simp only at hyl hy1 hy2 hyd c0 c1 c2
                obtain ⟨kk, rfl⟩ : ∃ kk : Nat, yk = (kk : Int) := ⟨yk.toNat, by omega⟩
                obtain ⟨ln, hln⟩ : ∃ ln, yl.length = ln := ⟨_, rfl⟩
                rw [hln] at hyl hyd c2
                have HLN := Lib.hid hln
                have hwk := wrap_u (n := kk) (by omega)
                have HYD := Lib.hid hyd
                clear hy hmem hkey hyd hln
                have E1 := Blk.new wr 85 #[.int .u64 (yt : Int), .int .i64 (kk : Int), .slice yA ln yc]
                have W2 := Wr.alloc (.cells #[.int .u64 (yt : Int), .int .i64 (kk : Int), .slice yA ln yc] 85)
                have O2 := Or.alloc (.cells #[.int .u64 (yt : Int), .int .i64 (kk : Int), .slice yA ln yc] 85)
                have D2 := below_alloc' Dr (.cells #[.int .u64 (yt : Int), .int .i64 (kk : Int), .slice yA ln yc] 85) (Nat.le_refl _)
                have hwl2 := Wr.lt
                go_wp2_with fail
                refine (wnum2_any w1.heap.size t yt 8 v' _ _ W2 O2 (by omega) (by omega) (by omega)).mono ?_
                rintro e u1 ⟨rfl, va, Wa, Oa, Ba, Ka⟩
                have Ea := E1.kt Ka (by decide) (by decide)
                have Da := D2.trans (Ba.mono (by omega))
                rw [← List.map_append] at Oa
                clear Wr Or Dr E1 W2 O2 D2 Ba Ka c0 c1 c2
                obtain ⟨b0, b1, b2⟩ := Ea.c3
                go_wp2_with fail
                refine (wnum2_any w1.heap.size (t + 8) kk 1 va _ _ Wa Oa (by omega) (by omega) (by omega)).mono ?_
                rintro e u2 ⟨rfl, vb, Wb, Ob, Bb, Kb⟩
                have Eb := Ea.kt Kb (by decide) (by decide)
                have Db := Da.trans (Bb.mono (by omega))
                rw [← List.map_append] at Ob
                clear Wa Oa Da Ea Bb Kb b0 b1 b2
                obtain ⟨b0, b1, b2⟩ := Eb.c3
                have hyd2 := HYD.out.below Db (Nat.le_refl _)
                have HLB : Hid (yl.length ≤ 1000 ∧ t + 8 + 1 + yl.length + 2 ≤ 1000000) := by show _ ∧ _; have := HLN.out; omega
                go_wp2_with fail
                refine (wbytes2_any w1.heap.size (t + 8 + 1) vb (.slice yA ln yc) _ yl _ Wb Ob hyd2 (by omega) HLB.out.1 HLB.out.2).mono ?_
                rintro e u3 ⟨rfl, vc, Wc, Oc, Bc, Kc⟩
                rw [HLN.out, ← List.map_append] at Oc
                go_wp2
                go_roundw
                case rel =>
                  refine ⟨j + 1, t + 8 + 1 + (ln + 2), by omega, by go_num, by omega, ⟨vc, Wc, ?_⟩, Db.trans (Bc.mono (by omega))⟩
                  rw [HKS.out]
                  unfold encK
                  simpa [List.append_assoc] using Oc
                case measure => simp [intOf]; omega
              · obtain rfl : j = n := by omega
                rw [List.take_of_length_le (by have := HN.out; simp; omega)] at Or
                go_wp2_with fail
                refine (wout_any w1.heap.size t v' _ _ Wr _ Or (by omega)).mono ?_
                rintro e u1 ⟨vo, rfl, Oo, Bo⟩
                go_wp2
                go_ret2
                refine ⟨vo, t, rfl, ?_, Dr.trans (Bo.mono Dr.size)⟩
                have hfin : PMsg.enc ⟨(kn : Int), (fn : Int), (tn : Int), te, ix, pr, co, ok, d, es.map Ent.key⟩ = P ++ encKs (es.map Ent.key) := by
                  unfold PMsg.enc
                  rw [← HP.out, ← HL3.out, ← HL1.out]
                  simp [HN.out, List.append_assoc]
                rw [hfin]
                exact own_wide Oo Dr.size
end Go.Proofs.YtciolppoanfiaaaDoor
