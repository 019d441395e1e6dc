/- BagSent. -/
import Derived.Test.YtciolppoanfiaaaDoorXSent
import Derived.Test.YtciolppoanfiaaaDoorWAwake7
import Derived.Test.YtciolppoanfiaaaDoorXMsgSame
namespace Go.Proofs.YtciolppoanfiaaaDoor
open Go.RowKit
theorem AllRow.nil (H : Nat) (w : World) (O : Nat → Prop) : AllRow H w O (.slice none 0 0) [] := ⟨World.ownsRow_nil _ _ _ _, fun b h => by cases h⟩
theorem IsMsg.drewM {w : World} {m : Msg} (h : IsMsg w m) (q : Nat) : IsMsg (w.drewN q) m :=
  ⟨by obtain ⟨lo, hi, hs⟩ := h.data; exact ⟨lo, hi, hs.drewN q⟩, by obtain ⟨lo, hi, hs⟩ := h.ents; exact ⟨lo, hi, hs.drewN q⟩, h.bytes.drewN q⟩
set_option maxRecDepth 100000 in
set_option maxHeartbeats 16000000 in
theorem bagSent_any (w : World) (ls : List Msg) {A : Option Addr} {c lo hi : Nat} (hs : Sl w lo hi 10 A ls.length c (mscells ls)) (hm : ∀ m ∈ ls, IsMsg w m ∧ m.plain.fits) (tw dr : Int) (rt : -9223372036854775808 ≤ tw ∧ tw ≤ 9223372036854775807) (rd : -9223372036854775808 ≤ dr ∧ dr ≤ 9223372036854775807)
    (ps : List Int) {Ap : Option Addr} {cp lop hip : Nat} (hp : Sl w lop hip 1 Ap ps.length cp (ps.map (Value.int .i64))) (hpr : ∀ p ∈ ps, -9223372036854775808 ≤ p ∧ p ≤ 9223372036854775807) (hT : Tab w) (hH0 : 0 < w.heap.size) :
    Calls Tryd.prog 11 #[.slice A ls.length c, .int .i64 tw, .int .i64 dr, .slice Ap ps.length cp] w fun e w' => e = .returned (.bool true) ∧ Below w.heap.size w w' := by
  obtain ⟨i0, hi0, hz0, hz1, hz2⟩ := info_parts msg_info
  obtain ⟨N, hN⟩ : ∃ N, ls.length = N := ⟨_, rfl⟩
  obtain ⟨R, hR⟩ : ∃ R, ps.length = R := ⟨_, rfl⟩
  rw [hN] at hs ⊢
  rw [hR] at hp ⊢
  have hNmax : N ≤ 9223372036854775807 := Nat.le_trans hs.cap hs.max
  have hRmax : R ≤ 9223372036854775807 := Nat.le_trans hp.cap hp.max
  have HN := Lib.hid hN
  have HR := Lib.hid hR
  clear hN hR
  by_cases h50 : 50 < N
  · have k50 : decide (50 < N) = true := decide_eq_true h50
    go_enter Tryd.func11, Tryd.ntmps11
    go_wp2_with fail
    refine (awake7_any _ hT hH0).mono ?_
    rintro e w1 ⟨rfl, b1⟩
    go_wp2_with fail
    refine (bnew_any w.heap.size _ b1.size).mono ?_
    rintro e w2 ⟨g, O, rfl, -, -, b2⟩
    go_wp2
    go_ret
    exact ⟨rfl, b1.trans (b2.mono b1.size)⟩
  · go_enter Tryd.func11, Tryd.ntmps11
    go_wp2_with fail
    refine (awake7_any _ hT hH0).mono ?_
    rintro e w1 ⟨rfl, b1⟩
    go_wp2_with fail
    refine (bnew_any w.heap.size _ b1.size).mono ?_
    rintro e w2 ⟨g, O0, rfl, hB0, -, b2⟩
    have hb0 := b1.trans (b2.mono b1.size)
    clear b1 b2
    go_wp2_with fail
    go_loopw [11, 12] (fun v i wr => ∃ (k : Nat) (O : Nat → Prop), k ≤ N ∧ i = .int .i64 k ∧ BagAt w.heap.size wr O g (frs (sentM (ls.take k))) [] 0 ∧ AllRow w.heap.size wr O v (sentM (ls.take k)) ∧ Below w.heap.size w wr) (fun _ i _ => N - (intOf i).toNat)
    case atStart => exact ⟨0, O0, Nat.zero_le _, rfl, hB0, AllRow.nil _ _ _, hb0⟩
    case round =>
      obtain ⟨k, O, hk, rfl, hB, hA, hbr⟩ := hrel
      obtain ⟨A3, c3, rfl, hs3⟩ := own_sl hA.row
      obtain ⟨n, hn⟩ : ∃ n, (sentM (ls.take k)).length = n := ⟨_, rfl⟩
      have hnk : n ≤ k := by rw [← hn]; exact sentM_len ls k
      have hAr := hA.row
      have hc3 : n ≤ c3 := by have := hs3.cap; omega
      have hm3 := hs3.max
      rw [hn] at hA hAr hs3 ⊢
      have HNN := Lib.hid hn
      have HB := Lib.hid hB
      have HA := Lib.hid hA
      have HAR := Lib.hid hAr
      clear hB hA hs3 hAr
      by_cases hlt : k < N
      · have hsr := hs.after (by decide) hbr
        have hg : ∃ ad, A = some ad := by obtain ⟨ad, e, _⟩ := hsr.at_ (by omega); exact ⟨ad, e⟩
        obtain ⟨ad, rfl⟩ := hg
        obtain ⟨m, hmk⟩ : ∃ m, ls[k]? = some m := ⟨_, List.getElem?_eq_getElem (by rw [HN.out]; exact hlt)⟩
        have hmm := hm m (List.mem_of_getElem? hmk)
        have HMK := Lib.hid hmk
        have HMM := Lib.hid hmm
        obtain ⟨E, hE⟩ : ∃ E, m.plain.pkE = E := ⟨_, rfl⟩
        have HE := Lib.hid hE
        clear hE hmm
        obtain ⟨M, hM⟩ : ∃ M, M = m := ⟨_, rfl⟩
        obtain ⟨y0, y1, y2, y3, y4, y5, y6, y7, y8, y9⟩ := hsr.msgAt hmk
        rw [← hM] at HMK HMM HE
        have hMl : mlist M = mlist m := by rw [hM]
        have hcs : ∀ W, Below w.heap.size w W → _ := fun W hW => (hs.after (by decide) hW).msgAt hmk
        have V1 : M.v = .agg (mlist m).toArray := by rw [hM]; rfl
        clear hmk hM hsr
        obtain ⟨k1, f1, t1, te1, ix1, pr1, co1, ok1, dA1, dc1, d1, eA1, ec1, es1⟩ := m
        simp only [mlist] at V1 hMl
        simp only at y0 y1 y2 y3 y4 y5 y6 y7 y8 y9 hcs
        generalize d1.length = dn1 at V1 hMl y8 hcs
        generalize es1.length = en1 at V1 hMl y9 hcs
        have HCS := Lib.hid hcs
        have HV := Lib.hid V1
        have HML := Lib.hid hMl
        clear V1 hMl hcs d1 es1
        by_cases h0 : E = 0
        · have hC := bsend_ok M wr (HMM.out.1.after hbr) HB.out (hT.below hbr hH0) hH0 hbr.size HE.out h0 (by rw [frs_len, HNN.out]; omega)
          rw [HV.out] at hC
          go_wp2_with fail
          refine hC.mono ?_
          rintro e w3 ⟨O3, rfl, hB3, hc3', hs3'⟩
          have hb3 := hbr.trans (hc3'.toBelow HB.out.low hbr.size)
          have hA3 := HA.out.chg hc3' hs3'
          have HA3 := Lib.hid hA3
          have HB3 := Lib.hid hB3
          clear hB3 hA3 hc3' hs3' hC y0 y1 y2 y3 y4 y5 y6 y7 y8 y9
          obtain ⟨y0, y1, y2, y3, y4, y5, y6, y7, y8, y9⟩ := HCS.out _ hb3
          have hAr3 := HA3.out.row
          rw [HNN.out] at hAr3
          have HAR3 := Lib.hid hAr3
          clear hAr3
          go_wp2_with (at_builtin; refine wpList_app _ rfl (.tmp 50) (.tmp 55) 65 rfl w.heap.size 41 i0 _ 10 112 Tryd.underlying65 hi0 hz0 hz1 hz2 rfl (by omega) (.slice A3 n c3) n (mscells (sentM (ls.take k))) rfl (by exact own_after HAR3.out ((Below.refl _ _).alloc (Nat.le_refl _) _)) w3.heap.size (w3.heap.size + 1) (some ⟨w3.heap.size, 0, none⟩) 1 1 _ rfl (by exact sl_new w3 10 1 1 _ _ rfl (Nat.le_refl _) (by decide)) (by intro u hu; simp only [List.mem_cons, List.not_mem_nil, or_false] at hu; rcases hu with rfl | rfl | rfl | rfl | rfl | rfl | rfl | rfl | rfl | rfl <;> rfl) (by simp only [maxLen]; omega) (by omega) (by have := hb3.size; simp only [alloc_size]; omega) ?_; intro v4 w4 hown4 hg4 hat4)
          go_roundw
          case rel =>
            have hfin := sent_app (m := M) HB3.out HA3.out hb3 hb3.size (by rw [HNN.out]; unfold mlist; rw [HML.out]; exact hown4) hg4 hat4
            refine ⟨k + 1, O3, by omega, rfl, ?_⟩
            have hE0 : M.plain.pkE = 0 := by rw [HE.out]; exact h0
            rw [sentM_yes HMK.out hE0]
            refine ⟨?_, hfin.2.1, hfin.2.2⟩
            have := hfin.1
            unfold frs at this ⊢
            rw [List.map_append]
            exact this
          case measure => simp [intOf]; omega
        · have hC := bsend_bad M wr (HMM.out.1.after hbr) HB.out (hT.below hbr hH0) hH0 hbr.size HE.out h0
          rw [HV.out] at hC
          have n_0 : ((E : Int) == 0) = false := by simpa using h0
          go_wp2_with fail
          refine hC.mono ?_
          rintro e w3 ⟨rfl, hB3, hc3'⟩
          have hb3 := hbr.trans (hc3'.toBelow HB.out.low hbr.size)
          have hA3 := HA.out.chg hc3' (Sub.refl _ _)
          have HA3 := Lib.hid hA3
          have HB3 := Lib.hid hB3
          clear hB3 hA3 hc3' hC y0 y1 y2 y3 y4 y5 y6 y7 y8 y9
          go_wp2
          go_roundw
          case rel =>
            refine ⟨k + 1, O, by omega, rfl, ?_⟩
            rw [sentM_no HMK.out (by rw [HE.out]; exact h0)]
            exact ⟨HB3.out, HA3.out, hb3⟩
          case measure => simp [intOf]; omega
      · obtain rfl : k = N := by omega
        clear hlt hk
        have hn50 : n ≤ 50 := by omega
        clear hnk
        obtain ⟨MS, hMS⟩ : ∃ MS, sentM (ls.take k) = MS := ⟨_, rfl⟩
        have hsub : ∀ m ∈ MS, IsMsg w m ∧ m.plain.fits ∧ m.plain.pkE = 0 := fun m h => by
          rw [← hMS] at h
          have h1 := List.mem_filter.1 h
          have h2 := hm m (List.mem_of_mem_take h1.1)
          exact ⟨h2.1, h2.2, of_decide_eq_true h1.2⟩
        rw [hMS] at HB HA HAR HNN
        have HSUB := Lib.hid hsub
        clear hMS hsub hn hs hm HN
        by_cases htw : 0 ≤ tw ∧ tw < (n : Int)
        · obtain ⟨i, rfl⟩ : ∃ i : Nat, tw = i := ⟨tw.toNat, by omega⟩
          have hin : i < n := by omega
          clear htw
          have hg : ∃ ad, A3 = some ad := by obtain ⟨A', c', e, hs'⟩ := own_sl HAR.out; injection e with e1 e2 e3; subst e1; obtain ⟨ad, e, _⟩ := hs'.at_ (by omega : 0 < n); exact ⟨ad, e⟩
          obtain ⟨ad, rfl⟩ := hg
          obtain ⟨m, hmk⟩ : ∃ m, MS[i]? = some m := ⟨_, List.getElem?_eq_getElem (by rw [HNN.out]; omega)⟩
          have hmm := HSUB.out m (List.mem_of_getElem? hmk)
          have HMK := Lib.hid hmk
          have HMM := Lib.hid hmm
          clear hmm
          obtain ⟨M, hM⟩ : ∃ M, M = m := ⟨_, rfl⟩
          rw [← hM] at HMK HMM
          have hMl : mlist M = mlist m := by rw [hM]
          have V1 : M.v = .agg (mlist m).toArray := by rw [hM]; rfl
          have hcs : ∀ W lo hi n c ad, Sl W lo hi 10 (some ad) n c (mscells MS) → _ := fun W lo hi n c ad h => h.msgAt hmk
          clear hmk hM
          obtain ⟨k1, f1, t1, te1, ix1, pr1, co1, ok1, dA1, dc1, d1, eA1, ec1, es1⟩ := m
          simp only [mlist] at V1 hMl
          simp only at hcs
          generalize d1.length = dn1 at V1 hMl hcs
          generalize es1.length = en1 at V1 hMl hcs
          have HCS := Lib.hid hcs
          have HV := Lib.hid V1
          have HML := Lib.hid hMl
          clear V1 hMl hcs d1 es1
          have hup := un_pk HMM.out.2.2 HMM.out.2.1
          have hC := btwice_ok i M.plain.pkL wr HB.out hbr.size (frs_at HMK.out) (by rw [frs_len, HNN.out]; omega) (pk_pos HMM.out.2.2) (Nat.le_trans hup.2.2 (by decide))
          have HC := Lib.hid hC
          clear hC hup
          go_wp2_with fail
          refine HC.out.mono ?_
          rintro e w3 ⟨O3, rfl, hB3, hc3', hs3'⟩
          have hb3 := hbr.trans (hc3'.toBelow HB.out.low hbr.size)
          have hA3 := HA.out.chg hc3' hs3'
          have HA3 := Lib.hid hA3
          have HB3 := Lib.hid hB3
          clear hB3 hA3 hc3' hs3' HC
          have HAR3r' := HA3.out.row
          rw [HNN.out] at HAR3r'
          have HAR3 := Lib.hid HAR3r'
          clear HAR3r'
          have hsl : Sl w3 w.heap.size w3.heap.size 10 (some ad) n c3 (mscells MS) := by obtain ⟨A', c', e, hs'⟩ := own_sl HAR3.out; injection e with e1 e2 e3; subst e1 e3; exact hs'
          obtain ⟨y0, y1, y2, y3, y4, y5, y6, y7, y8, y9⟩ := HCS.out _ _ _ _ _ _ hsl
          clear hsl
          go_wp2_with (at_builtin; refine wpList_app _ rfl (.tmp 72) (.tmp 77) 65 rfl w.heap.size 41 i0 _ 10 112 Tryd.underlying65 hi0 hz0 hz1 hz2 rfl (by omega) (.slice (some ad) n c3) n (mscells MS) rfl (by exact own_after HAR3.out ((Below.refl _ _).alloc (Nat.le_refl _) _)) w3.heap.size (w3.heap.size + 1) (some ⟨w3.heap.size, 0, none⟩) 1 1 _ rfl (by exact sl_new w3 10 1 1 _ _ rfl (Nat.le_refl _) (by decide)) (by intro u hu; simp only [List.mem_cons, List.not_mem_nil, or_false] at hu; rcases hu with rfl | rfl | rfl | rfl | rfl | rfl | rfl | rfl | rfl | rfl <;> rfl) (by simp only [maxLen]; omega) (by omega) (by have := hb3.size; simp only [alloc_size]; omega) ?_; intro v4 w4 hown4 hg4 hat4)
          obtain ⟨hB4, hA4, hb4⟩ := sent_app (m := M) HB3.out HA3.out hb3 hb3.size (by rw [HNN.out]; unfold mlist; rw [HML.out]; exact hown4) hg4 hat4
          have e4 : frs MS ++ [M.plain.pkL] = frs (MS ++ [M]) := by unfold frs; rw [List.map_append]; rfl
          rw [e4] at hB4
          have hsub4 : ∀ m ∈ MS ++ [M], IsMsg w m ∧ m.plain.fits ∧ m.plain.pkE = 0 := fun m h => by
            rcases List.mem_append.1 h with h | h
            · exact HSUB.out m h
            · rw [List.mem_singleton.1 h]; exact HMM.out
          have hn4 : (MS ++ [M]).length = n + 1 := by rw [List.length_append, HNN.out]; rfl
          obtain ⟨MS4, hMS4⟩ : ∃ x, MS ++ [M] = x := ⟨_, rfl⟩
          rw [hMS4] at hB4 hA4 hsub4 hn4
          obtain ⟨n4, hn4'⟩ : ∃ x, n + 1 = x := ⟨_, rfl⟩
          have hl4 : n4 ≤ 51 := by omega
          obtain ⟨A4, c4, hv4, hs4⟩ := own_sl hA4.row
          subst hv4
          have hc4 : n4 ≤ c4 := by have := hs4.cap; omega
          have hm4 := hs4.max
          have hr4 := hA4.row
          rw [hn4, hn4'] at hA4 hr4 ⊢
          rw [hn4'] at hn4
          have HB4 := Lib.hid hB4
          have HA4 := Lib.hid hA4
          have HAR4 := Lib.hid hr4
          have HNN4 := Lib.hid hn4
          have HSUB4 := Lib.hid hsub4
          clear hB4 hA4 hr4 hn4 hsub4 hs4 hMS4 e4 hown4 hg4 hat4 hn4' HB3 HA3 HAR3 hb3 HCS HML HV HMM HMK HB HA HAR HNN HSUB hbr y0 y1 y2 y3 y4 y5 y6 y7 y8 y9 hc3 hm3 hin hn50
          by_cases hdr : 0 ≤ dr ∧ dr < (n4 : Int)
          · obtain ⟨d, rfl⟩ : ∃ d : Nat, dr = d := ⟨dr.toNat, by omega⟩
            have hdn : d < n4 := by omega
            clear hdr
            have hg : ∃ ad, A4 = some ad := by obtain ⟨A', c', e, hs'⟩ := own_sl HAR4.out; injection e with e1 e2 e3; subst e1; obtain ⟨ad, e, _⟩ := hs'.at_ (by omega : 0 < n4); exact ⟨ad, e⟩
            obtain ⟨bd, rfl⟩ := hg
            have hC := bdrop_ok d w4 HB4.out (by rw [frs_len, HNN4.out]; exact hdn) (by rw [frs_len, HNN4.out]; omega) (by decide)
            rw [frs_erase] at hC
            refine hC.mono ?_
            rintro e w5 ⟨rfl, hB5, hc5'⟩
            have hb5 := hb4.trans (hc5'.toBelow HB4.out.low hb4.size)
            have hA5 := HA4.out.chg hc5' (Sub.refl _ _)
            have hr5 := hA5.row
            rw [HNN4.out] at hr5
            have HA5 := Lib.hid hA5
            have HB5 := Lib.hid hB5
            have HAR5 := Lib.hid hr5
            clear hC hB5 hA5 hr5 hc5' HB4 HA4 HAR4 hb4
            have hdc : d ≤ c4 := by omega
            have hd1 : d + 1 ≤ n4 := by omega
            have hd1c : d + 1 ≤ c4 := by omega
            obtain ⟨bd2, hbd2⟩ : ∃ x, (if c4 = d + 1 then some bd else some (bd.add ((d + 1) * 10))) = x := ⟨_, rfl⟩
            have hA2 : 0 < n4 - (d + 1) → bd2 = some (bd.add ((d + 1) * 10)) := fun h => by rw [← hbd2, if_neg (by omega)]
            have hsl5 : Sl w5 w.heap.size w5.heap.size 10 (some bd) n4 c4 (mscells MS4) := by obtain ⟨A', c', e, hs'⟩ := own_sl HAR5.out; injection e with e1 e2 e3; subst e1 e3; exact hs'
            have s1 := hsl5.sub (A' := some bd) (k := 0) (m := d) (c' := c4) (by omega) hdc hm4 (fun _ => by rw [Nat.zero_mul]; exact (map_add0 _).symm)
            have s2 := hsl5.sub (A' := bd2) (k := d + 1) (m := n4 - (d + 1)) (c' := c4 - (d + 1)) (by omega) (by omega) (by omega) hA2
            have hS1 : ∀ W, Below w5.heap.size w5 W → Sl W w.heap.size w5.heap.size 10 (some bd) d c4 _ := fun W hW => s1.after (by decide) hW
            have hS2 : ∀ W, Below w5.heap.size w5 W → Sl W w.heap.size w5.heap.size 10 bd2 (n4 - (d + 1)) (c4 - (d + 1)) _ := fun W hW => s2.after (by decide) hW
            have HS1 := Lib.hid hS1
            have HS2 := Lib.hid hS2
            have h1 : ∀ k m, ∀ u ∈ ((mscells MS4).drop k).take m, u.oneCell' = true := fun k m u hu => ms_one _ u (List.mem_of_mem_drop (List.mem_of_mem_take hu))
            have H1 := Lib.hid h1
            have hbs := hb5.size
            have hwr : IntKind.i64.wrap ((d : Int) + 1) = (d : Int) + 1 := by rw [IntKind.wrap_i64]; omega
            have hp0 : (0 : Int) ≤ (d : Int) + 1 := by omega
            have hp1 : (d : Int) + 1 ≤ (n4 : Int) := by omega
            have hp2 : ((d : Int) + 1).toNat = d + 1 := by omega
            clear hA2 hsl5 s1 s2 hS1 hS2 h1
            go_wp2_with fail
            go_region_law (first
              | (refine step_app _ rfl (.tmp 94) (.tmp 97) 65 rfl w.heap.size 41 i0 _ 10 112 Tryd.underlying65 hi0 hz0 hz1 hz2 rfl (by omega) (.slice (some ⟨w5.heap.size, 0, none⟩) 0 0) 0 [] (by simp [Act.eval, Act.put]) (by first | exact own_wide (own_empty w5 _ 10 _ rfl) hbs | exact own_drewN (own_wide (own_empty w5 _ 10 _ rfl) hbs) 1) _ _ (some bd) d c4 _ (by simp [Act.eval, Act.put]) (HS1.out _ (by first | exact ((Below.refl _ _).alloc (Nat.le_refl _) _) | exact below_drewN ((Below.refl _ _).alloc (Nat.le_refl _) _) 1)) (H1.out _ _) (by simp only [maxLen]; omega) (by omega) (by show _ ≤ (w5.alloc _).heap.size; rw [alloc_size]; omega) ?_; intro v1 w6 o6 g6 a6; have D6 : Below w5.heap.size w5 w6 := (by first | exact ((Below.refl _ _).alloc (Nat.le_refl _) _).grown g6 (by show w5.heap.size ≤ (w5.alloc _).heap.size; rw [alloc_size]; omega) (fun k hk => by have h' : some w5.heap.size = some k := hk; injection h' with h'; omega) | exact (below_drewN ((Below.refl _ _).alloc (Nat.le_refl _) _) 1).grown g6 (by show w5.heap.size ≤ (w5.alloc _).heap.size; rw [alloc_size]; omega) (fun k hk => by have h' : some w5.heap.size = some k := hk; injection h' with h'; omega)); obtain ⟨A6, c6, hv6, -⟩ := own_sl o6; subst hv6)
              | (refine step_app _ rfl (.tmp 98) (.tmp 102) 65 rfl w.heap.size 41 i0 _ 10 112 Tryd.underlying65 hi0 hz0 hz1 hz2 rfl (by omega) (.slice A6 (0 + d) c6) (0 + d) _ (by simp [Act.eval, Act.put]) o6 _ _ bd2 (n4 - (d + 1)) (c4 - (d + 1)) _ (by simp [Act.eval, Act.put]) (HS2.out _ D6) (H1.out _ _) (by simp only [maxLen]; omega) (by omega) (by have := D6.size; omega) ?_; intro v2 w7 o7 g7 a7))
            all_goals
              obtain ⟨hB7, hA7, hb7⟩ := erase_row (ms := MS4) (d := d) (m := n4 - (d + 1)) (w0 := w) (w2 := w7) HB5.out hb5 hb5.size (by rw [HNN4.out]; omega) o7 (by first | exact g6 | exact ⟨g6.os, g6.tape, g6.output, g6.size, g6.block⟩) (by exact a6) g7 a7
              have hsub7 : ∀ m ∈ MS4.eraseIdx d, IsMsg w m ∧ m.plain.fits ∧ m.plain.pkE = 0 := fun m h => HSUB4.out m (List.mem_of_mem_eraseIdx h)
              have hl7 : (MS4.eraseIdx d).length ≤ 51 := Nat.le_trans (List.length_eraseIdx_le _ _) (by rw [HNN4.out]; exact hl4)
              obtain ⟨MS7, hMS7⟩ : ∃ x, MS4.eraseIdx d = x := ⟨_, rfl⟩
              rw [hMS7] at hB7 hA7 hsub7 hl7
              have HB7 := Lib.hid hB7
              have HA7 := Lib.hid hA7
              have HSUB7 := Lib.hid hsub7
              have HL7 := Lib.hid hl7
              clear hB7 hA7 hsub7 hl7 hMS7 HB5 HA5 HAR5 o6 o7 g6 g7 a6 a7 D6 HS1 HS2 H1 HNN4 HSUB4 hbd2 hwr hp0 hp1 hp2 hdc hd1 hd1c hbs hb5 hc4 hm4 hl4 hdn
              go_wp2_with fail
              go_loopw [11, 16] (fun v i wr => ∃ (j : Nat) (MS : List Msg), j ≤ R ∧ i = .int .i64 j ∧ MS.length ≤ 51 ∧ BagAt w.heap.size wr O3 g (frs MS) [] 1 ∧ AllRow w.heap.size wr O3 v MS ∧ Below w.heap.size w wr ∧ ∀ m ∈ MS, IsMsg w m ∧ m.plain.fits ∧ m.plain.pkE = 0) (fun _ i _ => R - (intOf i).toNat)
              case atStart => exact ⟨0, MS7, Nat.zero_le _, rfl, HL7.out, HB7.out, HA7.out, hb7, HSUB7.out⟩
              case round =>
                clear HL7 HB7 HA7 HSUB7 hb7
                obtain ⟨j, MT, hj, rfl, hl, hB, hA, hbr, hsub⟩ := hrel
                obtain ⟨A6, c6, rfl, hs6⟩ := own_sl hA.row
                obtain ⟨nj, hnj⟩ : ∃ n, MT.length = n := ⟨_, rfl⟩
                have hr6 := hA.row
                have hc6 : nj ≤ c6 := by have := hs6.cap; omega
                have hm6 := hs6.max
                rw [hnj] at hA hr6 hs6 hl ⊢
                have HB6 := Lib.hid hB
                have HA6 := Lib.hid hA
                have HAR6 := Lib.hid hr6
                have HNN6 := Lib.hid hnj
                have HSUB6 := Lib.hid hsub
                clear hA hr6 hs6 hsub
                have hlen := blen_any _ hB
                rw [frs_len, hnj] at hlen
                have HLEN := Lib.hid hlen
                clear hlen hnj hB
                have hnn : ((nj : Int) == (nj : Int)) = true := by simp
                have hnn' : ((nj : Int) != (nj : Int)) = false := by simp
                by_cases hn0 : 0 < nj
                · by_cases hjR : j < R
                  · have hsp := hp.after (by decide) hbr
                    obtain ⟨pd, x, rfl, hx, hcx⟩ := hsp.nth hjR
                    rw [List.getElem?_map] at hx
                    obtain ⟨z, hz, rfl⟩ := Option.map_eq_some_iff.1 hx
                    have rz := hpr z (List.mem_of_getElem? hz)
                    have hnz : ((nj : Int) == 0) = false := by simp; omega
                    have hnz' : ¬ (nj : Int) = 0 := by omega
                    have ht1 : z.tmod (nj : Int) < (nj : Int) := Int.tmod_lt_of_pos _ (by omega)
                    have ht2 : -(nj : Int) < z.tmod (nj : Int) := Int.lt_tmod_of_pos _ (by omega)
                    obtain ⟨t, ht⟩ : ∃ t, z.tmod (nj : Int) = t := ⟨_, rfl⟩
                    rw [ht] at ht1 ht2
                    have hwt : IntKind.i64.wrap t = t := by rw [IntKind.wrap_i64]; omega
                    clear hsp hx hz
                    go_wp2_with fail
                    refine HLEN.out.mono ?_
                    rintro e _ ⟨rfl, rfl⟩
                    by_cases hneg : t < 0
                    · go_wp2
                      go_ret
                      exact ⟨by first | rfl | simp, hbr⟩
                    · obtain ⟨q, rfl⟩ : ∃ q : Nat, t = q := ⟨t.toNat, by omega⟩
                      have hq : q < nj := by omega
                      have hg : ∃ ad, A6 = some ad := by obtain ⟨A', c', e, hs'⟩ := own_sl HAR6.out; injection e with e1 e2 e3; subst e1; obtain ⟨ad, e, _⟩ := hs'.at_ hn0; exact ⟨ad, e⟩
                      obtain ⟨ed, rfl⟩ := hg
                      obtain ⟨m, hmk⟩ : ∃ m, MT[q]? = some m := ⟨_, List.getElem?_eq_getElem (by rw [HNN6.out]; omega)⟩
                      have hmm := HSUB6.out m (List.mem_of_getElem? hmk)
                      have HMK := Lib.hid hmk
                      have HMM := Lib.hid hmm
                      clear hmm
                      obtain ⟨M, hM⟩ : ∃ M, M = m := ⟨_, rfl⟩
                      rw [← hM] at HMK HMM
                      have hMl : mlist M = mlist m := by rw [hM]
                      have V1 : M.v = .agg (mlist m).toArray := by rw [hM]; rfl
                      have hcs : ∀ W lo hi n c ad, Sl W lo hi 10 (some ad) n c (mscells MT) → _ := fun W lo hi n c ad h => h.msgAt hmk
                      clear hmk hM
                      obtain ⟨k1, f1, t1, te1, ix1, pr1, co1, ok1, dA1, dc1, d1, eA1, ec1, es1⟩ := m
                      simp only [mlist] at V1 hMl
                      simp only at hcs
                      generalize d1.length = dn1 at V1 hMl hcs
                      generalize es1.length = en1 at V1 hMl hcs
                      have HCS := Lib.hid hcs
                      have HV := Lib.hid V1
                      have HML := Lib.hid hMl
                      clear V1 hMl hcs d1 es1
                      have hup := un_pk HMM.out.2.2 HMM.out.2.1
                      have hC := bdeliver_ok q M.plain.pkL wr HB6.out (frs_at HMK.out) (Nat.le_trans hup.2.2 (by decide)) (by rw [frs_len, HNN6.out]; omega) (hT.below hbr hH0) hH0 hbr.size (by decide) (E := 0) (dE_of hup.1 hup.2.1 rfl) (P := M.plain) (by rw [if_pos rfl]; exact hup.2.1) (n := 1) rfl
                      rw [frs_erase] at hC
                      have HC := Lib.hid hC
                      clear hC hup HLEN ht1 ht2
                      go_wp2_with fail
                      refine HC.out.mono ?_
                      rintro e w8 ⟨m8, rfl, hp8, hm8, hB8, hc8'⟩
                      have hb8 := hbr.trans (hc8'.toBelow HB6.out.low hbr.size)
                      have hA8 := HA6.out.chg hc8' (Sub.refl _ _)
                      obtain ⟨M8, hM8⟩ : ∃ M, M = m8 := ⟨_, rfl⟩
                      have V8 : M8.v = .agg (mlist m8).toArray := by rw [hM8]; rfl
                      rw [← hM8] at hp8 hm8
                      clear hM8 HC hc8' hcx ht hwt hnz hnz' hneg rz
                      obtain ⟨k8, f8, t8, te8, ix8, pr8, co8, ok8, dA8, dc8, d8, eA8, ec8, es8⟩ := m8
                      simp only [mlist] at V8
                      simp only [Msg.v, mcells]
                      generalize d8.length = dn8 at V8 ⊢
                      generalize es8.length = en8 at V8 ⊢
                      clear d8 es8
                      have E3 : Hid (∀ W, IsMsg W M8 → IsMsg W M → Calls Tryd.prog 31 #[.agg #[.int .i64 k8, .int .i64 f8, .int .i64 t8, .int .u64 (te8 : Int), .int .u64 (ix8 : Int), .int .u64 (pr8 : Int), .int .u64 (co8 : Int), .bool ok8, .slice dA8 dn8 dc8, .slice eA8 en8 ec8], .agg #[.int .i64 k1, .int .i64 f1, .int .i64 t1, .int .u64 (te1 : Int), .int .u64 (ix1 : Int), .int .u64 (pr1 : Int), .int .u64 (co1 : Int), .bool ok1, .slice dA1 dn1 dc1, .slice eA1 en1 ec1]] W fun e w' => e = .returned (.bool true) ∧ Below W.heap.size W w') := fun W h1 h2 => by
                        have := msgsame_any M8 M W h1 h2 (b := true) (by simp [hp8])
                        rw [V8, HV.out] at this
                        exact this
                      have OB : Obj := .cells #[.int .i64 k8, .int .i64 f8, .int .i64 t8, .int .u64 (te8 : Int), .int .u64 (ix8 : Int), .int .u64 (pr8 : Int), .int .u64 (co8 : Int), .bool ok8, .slice dA8 dn8 dc8, .slice eA8 en8 ec8] 41
                      clear OB
                      obtain ⟨w9, hw9⟩ : ∃ W, w8.alloc (.cells #[.int .i64 k8, .int .i64 f8, .int .i64 t8, .int .u64 (te8 : Int), .int .u64 (ix8 : Int), .int .u64 (pr8 : Int), .int .u64 (co8 : Int), .bool ok8, .slice dA8 dn8 dc8, .slice eA8 en8 ec8] 41) = W := ⟨_, rfl⟩
                      have hbx := (Below.refl w8.heap.size w8).alloc (Nat.le_refl _) (.cells #[.int .i64 k8, .int .i64 f8, .int .i64 t8, .int .u64 (te8 : Int), .int .u64 (ix8 : Int), .int .u64 (pr8 : Int), .int .u64 (co8 : Int), .bool ok8, .slice dA8 dn8 dc8, .slice eA8 en8 ec8] 41)
                      have B9 := Blk.new w8 41 #[.int .i64 k8, .int .i64 f8, .int .i64 t8, .int .u64 (te8 : Int), .int .u64 (ix8 : Int), .int .u64 (pr8 : Int), .int .u64 (co8 : Int), .bool ok8, .slice dA8 dn8 dc8, .slice eA8 en8 ec8]
                      have Q1 := hm8.after hbx
                      have Q2 := (HMM.out.1.after hb8).after hbx
                      have hA9 := hA8.below hbx
                      have hB9 := hB8.after hbx
                      have hb9 := hb8.trans (hbx.mono hb8.size)
                      rw [hw9] at hbx B9 Q1 Q2 hA9 hB9 hb9
                      have hr9 := hA9.row
                      rw [HNN6.out] at hr9
                      have hsl9 : Sl w9 w.heap.size w9.heap.size 10 (some ed) nj c6 (mscells MT) := by obtain ⟨A', c', e, hs'⟩ := own_sl hr9; injection e with e1 e2 e3; subst e1 e3; exact hs'
                      obtain ⟨x0, x1, x2, x3, x4, x5, x6, x7, x8, x9⟩ := B9.c10
                      obtain ⟨y0, y1, y2, y3, y4, y5, y6, y7, y8, y9⟩ := HCS.out _ _ _ _ _ _ hsl9
                      subst hw9
                      have HA9 := Lib.hid hA9
                      have HAR9 := Lib.hid hr9
                      have HB9 := Lib.hid hB9
                      clear hA9 hB9 hr9 hsl9 B9 hbx hA8 hB8 hm8 hp8 HCS HB6 HA6 HAR6
                      go_wp2_with fail
                      go_region_with (first | (go_at_call 31; refine (E3.out _ (by first | exact Q1.drewM 1 | exact Q1.drewM _) (by first | exact Q2.drewM 1 | exact Q2.drewM _)).mono ?_; rintro e w5 ⟨rfl, hb10⟩))
                      all_goals
                        have hb5 : Below w.heap.size w w5 := hb9.trans (Below.mono ⟨hb10.os, hb10.tape, hb10.output, hb10.size, hb10.block⟩ hb9.size)
                        have hB5 := HB9.out.after (w1 := w5) ⟨hb10.os, hb10.tape, hb10.output, hb10.size, hb10.block⟩
                        have hA5 := HA9.out.below (w1 := w5) ⟨hb10.os, hb10.tape, hb10.output, hb10.size, hb10.block⟩
                        have hr5 := hA5.row
                        rw [HNN6.out] at hr5
                        have HB5 := Lib.hid hB5
                        have HA5 := Lib.hid hA5
                        have HAR5 := Lib.hid hr5
                        clear hB5 hA5 hr5 hb10 HB9 HA9 HAR9 Q1 Q2 E3 x0 x1 x2 x3 x4 x5 x6 x7 x8 x9 y0 y1 y2 y3 y4 y5 y6 y7 y8 y9 hb9 hb8
                        have hdc : q ≤ c6 := by omega
                        have hd1 : q + 1 ≤ nj := by omega
                        have hd1c : q + 1 ≤ c6 := by omega
                        obtain ⟨bd2, hbd2⟩ : ∃ x, (if c6 = q + 1 then some ed else some (ed.add ((q + 1) * 10))) = x := ⟨_, rfl⟩
                        have hA2 : 0 < nj - (q + 1) → bd2 = some (ed.add ((q + 1) * 10)) := fun h => by rw [← hbd2, if_neg (by omega)]
                        have hsl5 : Sl w5 w.heap.size w5.heap.size 10 (some ed) nj c6 (mscells MT) := by obtain ⟨A', c', e, hs'⟩ := own_sl HAR5.out; injection e with e1 e2 e3; subst e1 e3; exact hs'
                        have s1 := hsl5.sub (A' := some ed) (k := 0) (m := q) (c' := c6) (by omega) hdc hm6 (fun _ => by rw [Nat.zero_mul]; exact (map_add0 _).symm)
                        have s2 := hsl5.sub (A' := bd2) (k := q + 1) (m := nj - (q + 1)) (c' := c6 - (q + 1)) (by omega) (by omega) (by omega) hA2
                        have hS1 : ∀ W, Below w5.heap.size w5 W → Sl W w.heap.size w5.heap.size 10 (some ed) q c6 _ := fun W hW => s1.after (by decide) hW
                        have hS2 : ∀ W, Below w5.heap.size w5 W → Sl W w.heap.size w5.heap.size 10 bd2 (nj - (q + 1)) (c6 - (q + 1)) _ := fun W hW => s2.after (by decide) hW
                        have HS1 := Lib.hid hS1
                        have HS2 := Lib.hid hS2
                        have h1 : ∀ k m, ∀ u ∈ ((mscells MT).drop k).take m, u.oneCell' = true := fun k m u hu => ms_one _ u (List.mem_of_mem_drop (List.mem_of_mem_take hu))
                        have H1 := Lib.hid h1
                        have hbs := hb5.size
                        have hwr : IntKind.i64.wrap ((q : Int) + 1) = (q : Int) + 1 := by rw [IntKind.wrap_i64]; omega
                        have hp0 : (0 : Int) ≤ (q : Int) + 1 := by omega
                        have hp1 : (q : Int) + 1 ≤ (nj : Int) := by omega
                        have hp2 : ((q : Int) + 1).toNat = q + 1 := by omega
                        clear hA2 hsl5 s1 s2 hS1 hS2 h1
                        go_wp2_with fail
                        go_region_law (first
                          | (refine step_app _ rfl (.tmp 156) (.tmp 159) 65 rfl w.heap.size 41 i0 _ 10 112 Tryd.underlying65 hi0 hz0 hz1 hz2 rfl (by omega) (.slice (some ⟨w5.heap.size, 0, none⟩) 0 0) 0 [] (by simp [Act.eval, Act.put]) (by first | exact own_wide (own_empty w5 _ 10 _ rfl) hbs | exact own_drewN (own_wide (own_empty w5 _ 10 _ rfl) hbs) 1) _ _ (some ed) q c6 _ (by simp [Act.eval, Act.put]) (HS1.out _ (by first | exact ((Below.refl _ _).alloc (Nat.le_refl _) _) | exact below_drewN ((Below.refl _ _).alloc (Nat.le_refl _) _) 1)) (H1.out _ _) (by simp only [maxLen]; omega) (by omega) (by show _ ≤ (w5.alloc _).heap.size; rw [alloc_size]; omega) ?_; intro v1 w6 o6 g6 a6; have D6 : Below w5.heap.size w5 w6 := (by first | exact ((Below.refl _ _).alloc (Nat.le_refl _) _).grown g6 (by show w5.heap.size ≤ (w5.alloc _).heap.size; rw [alloc_size]; omega) (fun k hk => by have h' : some w5.heap.size = some k := hk; injection h' with h'; omega) | exact (below_drewN ((Below.refl _ _).alloc (Nat.le_refl _) _) 1).grown g6 (by show w5.heap.size ≤ (w5.alloc _).heap.size; rw [alloc_size]; omega) (fun k hk => by have h' : some w5.heap.size = some k := hk; injection h' with h'; omega)); obtain ⟨Ax, cx, hv6, -⟩ := own_sl o6; subst hv6)
                          | (refine step_app _ rfl (.tmp 160) (.tmp 164) 65 rfl w.heap.size 41 i0 _ 10 112 Tryd.underlying65 hi0 hz0 hz1 hz2 rfl (by omega) (.slice Ax (0 + q) cx) (0 + q) _ (by simp [Act.eval, Act.put]) o6 _ _ bd2 (nj - (q + 1)) (c6 - (q + 1)) _ (by simp [Act.eval, Act.put]) (HS2.out _ D6) (H1.out _ _) (by simp only [maxLen]; omega) (by omega) (by have := D6.size; omega) ?_; intro v2 w7 o7 g7 a7))
                        all_goals
                          obtain ⟨hB7, hA7, hb7⟩ := erase_row (ms := MT) (d := q) (m := nj - (q + 1)) (w0 := w) (w2 := w7) HB5.out hb5 hb5.size (by rw [HNN6.out]; omega) o7 (by first | exact g6 | exact ⟨g6.os, g6.tape, g6.output, g6.size, g6.block⟩) (by exact a6) g7 a7
                          have hsub7 : ∀ m ∈ MT.eraseIdx q, IsMsg w m ∧ m.plain.fits ∧ m.plain.pkE = 0 := fun m h => HSUB6.out m (List.mem_of_mem_eraseIdx h)
                          have hl7 : (MT.eraseIdx q).length ≤ 51 := Nat.le_trans (List.length_eraseIdx_le _ _) (by rw [HNN6.out]; exact hl)
                          have HB7 := Lib.hid hB7
                          have HA7 := Lib.hid hA7
                          have HSUB7 := Lib.hid hsub7
                          have HL7 := Lib.hid hl7
                          clear hB7 hA7 hsub7 hl7 HB5 HA5 HAR5 o6 o7 g6 g7 a6 a7 D6 HS1 HS2 H1 HNN6 HSUB6 hbd2 hwr hp0 hp1 hp2 hdc hd1 hd1c hbs
                          go_wp2
                          go_roundw
                          case rel => exact ⟨j + 1, MT.eraseIdx q, by omega, by first | rfl | go_num, HL7.out, HB7.out, HA7.out, hb7, HSUB7.out⟩
                          case measure => simp [intOf]; omega
                  · go_wp2_with fail
                    refine HLEN.out.mono ?_
                    rintro e _ ⟨rfl, rfl⟩
                    go_wp2
                    go_ret
                    exact ⟨by first | rfl | simp, hbr⟩
                · go_wp2_with fail
                  all_goals
                    refine HLEN.out.mono ?_
                    rintro e _ ⟨rfl, rfl⟩
                    go_wp2
                    go_ret
                    exact ⟨by first | rfl | simp, hbr⟩
          · have hC := bdrop_no dr w4 HB4.out (by rw [frs_len, HNN4.out]; exact hdr)
            have HC := Lib.hid hC
            have hl7 : MS4.length ≤ 51 := by rw [HNN4.out]; exact hl4
            have HL7 := Lib.hid hl7
            clear hC hdr hl7
            refine HC.out.mono ?_
            rintro e _ ⟨rfl, rfl⟩
            clear HC HAR4 HNN4 hc4 hm4 hl4
            go_wp2_with fail
            go_loopw [11, 16] (fun v i wr => ∃ (j : Nat) (MS : List Msg), j ≤ R ∧ i = .int .i64 j ∧ MS.length ≤ 51 ∧ BagAt w.heap.size wr O3 g (frs MS) [] 0 ∧ AllRow w.heap.size wr O3 v MS ∧ Below w.heap.size w wr ∧ ∀ m ∈ MS, IsMsg w m ∧ m.plain.fits ∧ m.plain.pkE = 0) (fun _ i _ => R - (intOf i).toNat)
            case atStart => exact ⟨0, MS4, Nat.zero_le _, rfl, HL7.out, HB4.out, HA4.out, hb4, HSUB4.out⟩
            case round =>
              clear HL7 HB4 HA4 HSUB4 hb4
              obtain ⟨j, MT, hj, rfl, hl, hB, hA, hbr, hsub⟩ := hrel
              obtain ⟨A6, c6, rfl, hs6⟩ := own_sl hA.row
              obtain ⟨nj, hnj⟩ : ∃ n, MT.length = n := ⟨_, rfl⟩
              have hr6 := hA.row
              have hc6 : nj ≤ c6 := by have := hs6.cap; omega
              have hm6 := hs6.max
              rw [hnj] at hA hr6 hs6 hl ⊢
              have HB6 := Lib.hid hB
              have HA6 := Lib.hid hA
              have HAR6 := Lib.hid hr6
              have HNN6 := Lib.hid hnj
              have HSUB6 := Lib.hid hsub
              clear hA hr6 hs6 hsub
              have hlen := blen_any _ hB
              rw [frs_len, hnj] at hlen
              have HLEN := Lib.hid hlen
              clear hlen hnj hB
              have hnn : ((nj : Int) == (nj : Int)) = true := by simp
              have hnn' : ((nj : Int) != (nj : Int)) = false := by simp
              by_cases hn0 : 0 < nj
              · by_cases hjR : j < R
                · have hsp := hp.after (by decide) hbr
                  obtain ⟨pd, x, rfl, hx, hcx⟩ := hsp.nth hjR
                  rw [List.getElem?_map] at hx
                  obtain ⟨z, hz, rfl⟩ := Option.map_eq_some_iff.1 hx
                  have rz := hpr z (List.mem_of_getElem? hz)
                  have hnz : ((nj : Int) == 0) = false := by simp; omega
                  have hnz' : ¬ (nj : Int) = 0 := by omega
                  have ht1 : z.tmod (nj : Int) < (nj : Int) := Int.tmod_lt_of_pos _ (by omega)
                  have ht2 : -(nj : Int) < z.tmod (nj : Int) := Int.lt_tmod_of_pos _ (by omega)
                  obtain ⟨t, ht⟩ : ∃ t, z.tmod (nj : Int) = t := ⟨_, rfl⟩
                  rw [ht] at ht1 ht2
                  have hwt : IntKind.i64.wrap t = t := by rw [IntKind.wrap_i64]; omega
                  clear hsp hx hz
                  go_wp2_with fail
                  refine HLEN.out.mono ?_
                  rintro e _ ⟨rfl, rfl⟩
                  by_cases hneg : t < 0
                  · go_wp2
                    go_ret
                    exact ⟨by first | rfl | simp, hbr⟩
                  · obtain ⟨q, rfl⟩ : ∃ q : Nat, t = q := ⟨t.toNat, by omega⟩
                    have hq : q < nj := by omega
                    have hg : ∃ ad, A6 = some ad := by obtain ⟨A', c', e, hs'⟩ := own_sl HAR6.out; injection e with e1 e2 e3; subst e1; obtain ⟨ad, e, _⟩ := hs'.at_ hn0; exact ⟨ad, e⟩
                    obtain ⟨ed, rfl⟩ := hg
                    obtain ⟨m, hmk⟩ : ∃ m, MT[q]? = some m := ⟨_, List.getElem?_eq_getElem (by rw [HNN6.out]; omega)⟩
                    have hmm := HSUB6.out m (List.mem_of_getElem? hmk)
                    have HMK := Lib.hid hmk
                    have HMM := Lib.hid hmm
                    clear hmm
                    obtain ⟨M, hM⟩ : ∃ M, M = m := ⟨_, rfl⟩
                    rw [← hM] at HMK HMM
                    have hMl : mlist M = mlist m := by rw [hM]
                    have V1 : M.v = .agg (mlist m).toArray := by rw [hM]; rfl
                    have hcs : ∀ W lo hi n c ad, Sl W lo hi 10 (some ad) n c (mscells MT) → _ := fun W lo hi n c ad h => h.msgAt hmk
                    clear hmk hM
                    obtain ⟨k1, f1, t1, te1, ix1, pr1, co1, ok1, dA1, dc1, d1, eA1, ec1, es1⟩ := m
                    simp only [mlist] at V1 hMl
                    simp only at hcs
                    generalize d1.length = dn1 at V1 hMl hcs
                    generalize es1.length = en1 at V1 hMl hcs
                    have HCS := Lib.hid hcs
                    have HV := Lib.hid V1
                    have HML := Lib.hid hMl
                    clear V1 hMl hcs d1 es1
                    have hup := un_pk HMM.out.2.2 HMM.out.2.1
                    have hC := bdeliver_ok q M.plain.pkL wr HB6.out (frs_at HMK.out) (Nat.le_trans hup.2.2 (by decide)) (by rw [frs_len, HNN6.out]; omega) (hT.below hbr hH0) hH0 hbr.size (by decide) (E := 0) (dE_of hup.1 hup.2.1 rfl) (P := M.plain) (by rw [if_pos rfl]; exact hup.2.1) (n := 0) rfl
                    rw [frs_erase] at hC
                    have HC := Lib.hid hC
                    clear hC hup HLEN ht1 ht2
                    go_wp2_with fail
                    refine HC.out.mono ?_
                    rintro e w8 ⟨m8, rfl, hp8, hm8, hB8, hc8'⟩
                    have hb8 := hbr.trans (hc8'.toBelow HB6.out.low hbr.size)
                    have hA8 := HA6.out.chg hc8' (Sub.refl _ _)
                    obtain ⟨M8, hM8⟩ : ∃ M, M = m8 := ⟨_, rfl⟩
                    have V8 : M8.v = .agg (mlist m8).toArray := by rw [hM8]; rfl
                    rw [← hM8] at hp8 hm8
                    clear hM8 HC hc8' hcx ht hwt hnz hnz' hneg rz
                    obtain ⟨k8, f8, t8, te8, ix8, pr8, co8, ok8, dA8, dc8, d8, eA8, ec8, es8⟩ := m8
                    simp only [mlist] at V8
                    simp only [Msg.v, mcells]
                    generalize d8.length = dn8 at V8 ⊢
                    generalize es8.length = en8 at V8 ⊢
                    clear d8 es8
                    have E3 : Hid (∀ W, IsMsg W M8 → IsMsg W M → Calls Tryd.prog 31 #[.agg #[.int .i64 k8, .int .i64 f8, .int .i64 t8, .int .u64 (te8 : Int), .int .u64 (ix8 : Int), .int .u64 (pr8 : Int), .int .u64 (co8 : Int), .bool ok8, .slice dA8 dn8 dc8, .slice eA8 en8 ec8], .agg #[.int .i64 k1, .int .i64 f1, .int .i64 t1, .int .u64 (te1 : Int), .int .u64 (ix1 : Int), .int .u64 (pr1 : Int), .int .u64 (co1 : Int), .bool ok1, .slice dA1 dn1 dc1, .slice eA1 en1 ec1]] W fun e w' => e = .returned (.bool true) ∧ Below W.heap.size W w') := fun W h1 h2 => by
                      have := msgsame_any M8 M W h1 h2 (b := true) (by simp [hp8])
                      rw [V8, HV.out] at this
                      exact this
                    have OB : Obj := .cells #[.int .i64 k8, .int .i64 f8, .int .i64 t8, .int .u64 (te8 : Int), .int .u64 (ix8 : Int), .int .u64 (pr8 : Int), .int .u64 (co8 : Int), .bool ok8, .slice dA8 dn8 dc8, .slice eA8 en8 ec8] 41
                    clear OB
                    obtain ⟨w9, hw9⟩ : ∃ W, w8.alloc (.cells #[.int .i64 k8, .int .i64 f8, .int .i64 t8, .int .u64 (te8 : Int), .int .u64 (ix8 : Int), .int .u64 (pr8 : Int), .int .u64 (co8 : Int), .bool ok8, .slice dA8 dn8 dc8, .slice eA8 en8 ec8] 41) = W := ⟨_, rfl⟩
                    have hbx := (Below.refl w8.heap.size w8).alloc (Nat.le_refl _) (.cells #[.int .i64 k8, .int .i64 f8, .int .i64 t8, .int .u64 (te8 : Int), .int .u64 (ix8 : Int), .int .u64 (pr8 : Int), .int .u64 (co8 : Int), .bool ok8, .slice dA8 dn8 dc8, .slice eA8 en8 ec8] 41)
                    have B9 := Blk.new w8 41 #[.int .i64 k8, .int .i64 f8, .int .i64 t8, .int .u64 (te8 : Int), .int .u64 (ix8 : Int), .int .u64 (pr8 : Int), .int .u64 (co8 : Int), .bool ok8, .slice dA8 dn8 dc8, .slice eA8 en8 ec8]
                    have Q1 := hm8.after hbx
                    have Q2 := (HMM.out.1.after hb8).after hbx
                    have hA9 := hA8.below hbx
                    have hB9 := hB8.after hbx
                    have hb9 := hb8.trans (hbx.mono hb8.size)
                    rw [hw9] at hbx B9 Q1 Q2 hA9 hB9 hb9
                    have hr9 := hA9.row
                    rw [HNN6.out] at hr9
                    have hsl9 : Sl w9 w.heap.size w9.heap.size 10 (some ed) nj c6 (mscells MT) := by obtain ⟨A', c', e, hs'⟩ := own_sl hr9; injection e with e1 e2 e3; subst e1 e3; exact hs'
                    obtain ⟨x0, x1, x2, x3, x4, x5, x6, x7, x8, x9⟩ := B9.c10
                    obtain ⟨y0, y1, y2, y3, y4, y5, y6, y7, y8, y9⟩ := HCS.out _ _ _ _ _ _ hsl9
                    subst hw9
                    have HA9 := Lib.hid hA9
                    have HAR9 := Lib.hid hr9
                    have HB9 := Lib.hid hB9
                    clear hA9 hB9 hr9 hsl9 B9 hbx hA8 hB8 hm8 hp8 HCS HB6 HA6 HAR6
                    go_wp2_with fail
                    go_region_with (first | (go_at_call 31; refine (E3.out _ (by first | exact Q1.drewM 1 | exact Q1.drewM _) (by first | exact Q2.drewM 1 | exact Q2.drewM _)).mono ?_; rintro e w5 ⟨rfl, hb10⟩))
                    all_goals
                      have hb5 : Below w.heap.size w w5 := hb9.trans (Below.mono ⟨hb10.os, hb10.tape, hb10.output, hb10.size, hb10.block⟩ hb9.size)
                      have hB5 := HB9.out.after (w1 := w5) ⟨hb10.os, hb10.tape, hb10.output, hb10.size, hb10.block⟩
                      have hA5 := HA9.out.below (w1 := w5) ⟨hb10.os, hb10.tape, hb10.output, hb10.size, hb10.block⟩
                      have hr5 := hA5.row
                      rw [HNN6.out] at hr5
                      have HB5 := Lib.hid hB5
                      have HA5 := Lib.hid hA5
                      have HAR5 := Lib.hid hr5
                      clear hB5 hA5 hr5 hb10 HB9 HA9 HAR9 Q1 Q2 E3 x0 x1 x2 x3 x4 x5 x6 x7 x8 x9 y0 y1 y2 y3 y4 y5 y6 y7 y8 y9 hb9 hb8
                      have hdc : q ≤ c6 := by omega
                      have hd1 : q + 1 ≤ nj := by omega
                      have hd1c : q + 1 ≤ c6 := by omega
                      obtain ⟨bd2, hbd2⟩ : ∃ x, (if c6 = q + 1 then some ed else some (ed.add ((q + 1) * 10))) = x := ⟨_, rfl⟩
                      have hA2 : 0 < nj - (q + 1) → bd2 = some (ed.add ((q + 1) * 10)) := fun h => by rw [← hbd2, if_neg (by omega)]
                      have hsl5 : Sl w5 w.heap.size w5.heap.size 10 (some ed) nj c6 (mscells MT) := by obtain ⟨A', c', e, hs'⟩ := own_sl HAR5.out; injection e with e1 e2 e3; subst e1 e3; exact hs'
                      have s1 := hsl5.sub (A' := some ed) (k := 0) (m := q) (c' := c6) (by omega) hdc hm6 (fun _ => by rw [Nat.zero_mul]; exact (map_add0 _).symm)
                      have s2 := hsl5.sub (A' := bd2) (k := q + 1) (m := nj - (q + 1)) (c' := c6 - (q + 1)) (by omega) (by omega) (by omega) hA2
                      have hS1 : ∀ W, Below w5.heap.size w5 W → Sl W w.heap.size w5.heap.size 10 (some ed) q c6 _ := fun W hW => s1.after (by decide) hW
                      have hS2 : ∀ W, Below w5.heap.size w5 W → Sl W w.heap.size w5.heap.size 10 bd2 (nj - (q + 1)) (c6 - (q + 1)) _ := fun W hW => s2.after (by decide) hW
                      have HS1 := Lib.hid hS1
                      have HS2 := Lib.hid hS2
                      have h1 : ∀ k m, ∀ u ∈ ((mscells MT).drop k).take m, u.oneCell' = true := fun k m u hu => ms_one _ u (List.mem_of_mem_drop (List.mem_of_mem_take hu))
                      have H1 := Lib.hid h1
                      have hbs := hb5.size
                      have hwr : IntKind.i64.wrap ((q : Int) + 1) = (q : Int) + 1 := by rw [IntKind.wrap_i64]; omega
                      have hp0 : (0 : Int) ≤ (q : Int) + 1 := by omega
                      have hp1 : (q : Int) + 1 ≤ (nj : Int) := by omega
                      have hp2 : ((q : Int) + 1).toNat = q + 1 := by omega
                      clear hA2 hsl5 s1 s2 hS1 hS2 h1
                      go_wp2_with fail
                      go_region_law (first
                        | (refine step_app _ rfl (.tmp 156) (.tmp 159) 65 rfl w.heap.size 41 i0 _ 10 112 Tryd.underlying65 hi0 hz0 hz1 hz2 rfl (by omega) (.slice (some ⟨w5.heap.size, 0, none⟩) 0 0) 0 [] (by simp [Act.eval, Act.put]) (by first | exact own_wide (own_empty w5 _ 10 _ rfl) hbs | exact own_drewN (own_wide (own_empty w5 _ 10 _ rfl) hbs) 1) _ _ (some ed) q c6 _ (by simp [Act.eval, Act.put]) (HS1.out _ (by first | exact ((Below.refl _ _).alloc (Nat.le_refl _) _) | exact below_drewN ((Below.refl _ _).alloc (Nat.le_refl _) _) 1)) (H1.out _ _) (by simp only [maxLen]; omega) (by omega) (by show _ ≤ (w5.alloc _).heap.size; rw [alloc_size]; omega) ?_; intro v1 w6 o6 g6 a6; have D6 : Below w5.heap.size w5 w6 := (by first | exact ((Below.refl _ _).alloc (Nat.le_refl _) _).grown g6 (by show w5.heap.size ≤ (w5.alloc _).heap.size; rw [alloc_size]; omega) (fun k hk => by have h' : some w5.heap.size = some k := hk; injection h' with h'; omega) | exact (below_drewN ((Below.refl _ _).alloc (Nat.le_refl _) _) 1).grown g6 (by show w5.heap.size ≤ (w5.alloc _).heap.size; rw [alloc_size]; omega) (fun k hk => by have h' : some w5.heap.size = some k := hk; injection h' with h'; omega)); obtain ⟨Ax, cx, hv6, -⟩ := own_sl o6; subst hv6)
                        | (refine step_app _ rfl (.tmp 160) (.tmp 164) 65 rfl w.heap.size 41 i0 _ 10 112 Tryd.underlying65 hi0 hz0 hz1 hz2 rfl (by omega) (.slice Ax (0 + q) cx) (0 + q) _ (by simp [Act.eval, Act.put]) o6 _ _ bd2 (nj - (q + 1)) (c6 - (q + 1)) _ (by simp [Act.eval, Act.put]) (HS2.out _ D6) (H1.out _ _) (by simp only [maxLen]; omega) (by omega) (by have := D6.size; omega) ?_; intro v2 w7 o7 g7 a7))
                      all_goals
                        obtain ⟨hB7, hA7, hb7⟩ := erase_row (ms := MT) (d := q) (m := nj - (q + 1)) (w0 := w) (w2 := w7) HB5.out hb5 hb5.size (by rw [HNN6.out]; omega) o7 (by first | exact g6 | exact ⟨g6.os, g6.tape, g6.output, g6.size, g6.block⟩) (by exact a6) g7 a7
                        have hsub7 : ∀ m ∈ MT.eraseIdx q, IsMsg w m ∧ m.plain.fits ∧ m.plain.pkE = 0 := fun m h => HSUB6.out m (List.mem_of_mem_eraseIdx h)
                        have hl7 : (MT.eraseIdx q).length ≤ 51 := Nat.le_trans (List.length_eraseIdx_le _ _) (by rw [HNN6.out]; exact hl)
                        have HB7 := Lib.hid hB7
                        have HA7 := Lib.hid hA7
                        have HSUB7 := Lib.hid hsub7
                        have HL7 := Lib.hid hl7
                        clear hB7 hA7 hsub7 hl7 HB5 HA5 HAR5 o6 o7 g6 g7 a6 a7 D6 HS1 HS2 H1 HNN6 HSUB6 hbd2 hwr hp0 hp1 hp2 hdc hd1 hd1c hbs
                        go_wp2
                        go_roundw
                        case rel => exact ⟨j + 1, MT.eraseIdx q, by omega, by first | rfl | go_num, HL7.out, HB7.out, HA7.out, hb7, HSUB7.out⟩
                        case measure => simp [intOf]; omega
                · go_wp2_with fail
                  refine HLEN.out.mono ?_
                  rintro e _ ⟨rfl, rfl⟩
                  go_wp2
                  go_ret
                  exact ⟨by first | rfl | simp, hbr⟩
              · go_wp2_with fail
                all_goals
                  refine HLEN.out.mono ?_
                  rintro e _ ⟨rfl, rfl⟩
                  go_wp2
                  go_ret
                  exact ⟨by first | rfl | simp, hbr⟩
        · have hC := btwice_no tw wr HB.out (by rw [frs_len, HNN.out]; exact htw)
          have HC := Lib.hid hC
          clear hC
          go_wp2_with fail
          refine HC.out.mono ?_
          rintro e _ ⟨rfl, rfl⟩
          have hl4 : n ≤ 51 := by omega
          clear HC htw hn50
          go_wp2_with fail
          by_cases hdr : 0 ≤ dr ∧ dr < (n : Int)
          · obtain ⟨d, rfl⟩ : ∃ d : Nat, dr = d := ⟨dr.toNat, by omega⟩
            have hdn : d < n := by omega
            clear hdr
            have hg : ∃ ad, A3 = some ad := by obtain ⟨A', c', e, hs'⟩ := own_sl HAR.out; injection e with e1 e2 e3; subst e1; obtain ⟨ad, e, _⟩ := hs'.at_ (by omega : 0 < n); exact ⟨ad, e⟩
            obtain ⟨bd, rfl⟩ := hg
            have hC := bdrop_ok d wr HB.out (by rw [frs_len, HNN.out]; exact hdn) (by rw [frs_len, HNN.out]; omega) (by decide)
            rw [frs_erase] at hC
            refine hC.mono ?_
            rintro e w5 ⟨rfl, hB5, hc5'⟩
            have hb5 := hbr.trans (hc5'.toBelow HB.out.low hbr.size)
            have hA5 := HA.out.chg hc5' (Sub.refl _ _)
            have hr5 := hA5.row
            rw [HNN.out] at hr5
            have HA5 := Lib.hid hA5
            have HB5 := Lib.hid hB5
            have HAR5 := Lib.hid hr5
            clear hC hB5 hA5 hr5 hc5' HB HA HAR hbr
            have hdc : d ≤ c3 := by omega
            have hd1 : d + 1 ≤ n := by omega
            have hd1c : d + 1 ≤ c3 := by omega
            obtain ⟨bd2, hbd2⟩ : ∃ x, (if c3 = d + 1 then some bd else some (bd.add ((d + 1) * 10))) = x := ⟨_, rfl⟩
            have hA2 : 0 < n - (d + 1) → bd2 = some (bd.add ((d + 1) * 10)) := fun h => by rw [← hbd2, if_neg (by omega)]
            have hsl5 : Sl w5 w.heap.size w5.heap.size 10 (some bd) n c3 (mscells MS) := by obtain ⟨A', c', e, hs'⟩ := own_sl HAR5.out; injection e with e1 e2 e3; subst e1 e3; exact hs'
            have s1 := hsl5.sub (A' := some bd) (k := 0) (m := d) (c' := c3) (by omega) hdc hm3 (fun _ => by rw [Nat.zero_mul]; exact (map_add0 _).symm)
            have s2 := hsl5.sub (A' := bd2) (k := d + 1) (m := n - (d + 1)) (c' := c3 - (d + 1)) (by omega) (by omega) (by omega) hA2
            have hS1 : ∀ W, Below w5.heap.size w5 W → Sl W w.heap.size w5.heap.size 10 (some bd) d c3 _ := fun W hW => s1.after (by decide) hW
            have hS2 : ∀ W, Below w5.heap.size w5 W → Sl W w.heap.size w5.heap.size 10 bd2 (n - (d + 1)) (c3 - (d + 1)) _ := fun W hW => s2.after (by decide) hW
            have HS1 := Lib.hid hS1
            have HS2 := Lib.hid hS2
            have h1 : ∀ k m, ∀ u ∈ ((mscells MS).drop k).take m, u.oneCell' = true := fun k m u hu => ms_one _ u (List.mem_of_mem_drop (List.mem_of_mem_take hu))
            have H1 := Lib.hid h1
            have hbs := hb5.size
            have hwr : IntKind.i64.wrap ((d : Int) + 1) = (d : Int) + 1 := by rw [IntKind.wrap_i64]; omega
            have hp0 : (0 : Int) ≤ (d : Int) + 1 := by omega
            have hp1 : (d : Int) + 1 ≤ (n : Int) := by omega
            have hp2 : ((d : Int) + 1).toNat = d + 1 := by omega
            clear hA2 hsl5 s1 s2 hS1 hS2 h1
            go_wp2_with fail
            go_region_law (first
              | (refine step_app _ rfl (.tmp 94) (.tmp 97) 65 rfl w.heap.size 41 i0 _ 10 112 Tryd.underlying65 hi0 hz0 hz1 hz2 rfl (by omega) (.slice (some ⟨w5.heap.size, 0, none⟩) 0 0) 0 [] (by simp [Act.eval, Act.put]) (by first | exact own_wide (own_empty w5 _ 10 _ rfl) hbs | exact own_drewN (own_wide (own_empty w5 _ 10 _ rfl) hbs) 1) _ _ (some bd) d c3 _ (by simp [Act.eval, Act.put]) (HS1.out _ (by first | exact ((Below.refl _ _).alloc (Nat.le_refl _) _) | exact below_drewN ((Below.refl _ _).alloc (Nat.le_refl _) _) 1)) (H1.out _ _) (by simp only [maxLen]; omega) (by omega) (by show _ ≤ (w5.alloc _).heap.size; rw [alloc_size]; omega) ?_; intro v1 w6 o6 g6 a6; have D6 : Below w5.heap.size w5 w6 := (by first | exact ((Below.refl _ _).alloc (Nat.le_refl _) _).grown g6 (by show w5.heap.size ≤ (w5.alloc _).heap.size; rw [alloc_size]; omega) (fun k hk => by have h' : some w5.heap.size = some k := hk; injection h' with h'; omega) | exact (below_drewN ((Below.refl _ _).alloc (Nat.le_refl _) _) 1).grown g6 (by show w5.heap.size ≤ (w5.alloc _).heap.size; rw [alloc_size]; omega) (fun k hk => by have h' : some w5.heap.size = some k := hk; injection h' with h'; omega)); obtain ⟨A6, c6, hv6, -⟩ := own_sl o6; subst hv6)
              | (refine step_app _ rfl (.tmp 98) (.tmp 102) 65 rfl w.heap.size 41 i0 _ 10 112 Tryd.underlying65 hi0 hz0 hz1 hz2 rfl (by omega) (.slice A6 (0 + d) c6) (0 + d) _ (by simp [Act.eval, Act.put]) o6 _ _ bd2 (n - (d + 1)) (c3 - (d + 1)) _ (by simp [Act.eval, Act.put]) (HS2.out _ D6) (H1.out _ _) (by simp only [maxLen]; omega) (by omega) (by have := D6.size; omega) ?_; intro v2 w7 o7 g7 a7))
            all_goals
              obtain ⟨hB7, hA7, hb7⟩ := erase_row (ms := MS) (d := d) (m := n - (d + 1)) (w0 := w) (w2 := w7) HB5.out hb5 hb5.size (by rw [HNN.out]; omega) o7 (by first | exact g6 | exact ⟨g6.os, g6.tape, g6.output, g6.size, g6.block⟩) (by exact a6) g7 a7
              have hsub7 : ∀ m ∈ MS.eraseIdx d, IsMsg w m ∧ m.plain.fits ∧ m.plain.pkE = 0 := fun m h => HSUB.out m (List.mem_of_mem_eraseIdx h)
              have hl7 : (MS.eraseIdx d).length ≤ 51 := Nat.le_trans (List.length_eraseIdx_le _ _) (by rw [HNN.out]; exact hl4)
              obtain ⟨MS7, hMS7⟩ : ∃ x, MS.eraseIdx d = x := ⟨_, rfl⟩
              rw [hMS7] at hB7 hA7 hsub7 hl7
              have HB7 := Lib.hid hB7
              have HA7 := Lib.hid hA7
              have HSUB7 := Lib.hid hsub7
              have HL7 := Lib.hid hl7
              clear hB7 hA7 hsub7 hl7 hMS7 HB5 HA5 HAR5 o6 o7 g6 g7 a6 a7 D6 HS1 HS2 H1 HNN HSUB hbd2 hwr hp0 hp1 hp2 hdc hd1 hd1c hbs hb5 hc3 hm3 hl4 hdn
              go_wp2_with fail
              go_loopw [11, 16] (fun v i wr => ∃ (j : Nat) (MS : List Msg), j ≤ R ∧ i = .int .i64 j ∧ MS.length ≤ 51 ∧ BagAt w.heap.size wr O g (frs MS) [] 1 ∧ AllRow w.heap.size wr O v MS ∧ Below w.heap.size w wr ∧ ∀ m ∈ MS, IsMsg w m ∧ m.plain.fits ∧ m.plain.pkE = 0) (fun _ i _ => R - (intOf i).toNat)
              case atStart => exact ⟨0, MS7, Nat.zero_le _, rfl, HL7.out, HB7.out, HA7.out, hb7, HSUB7.out⟩
              case round =>
                clear HL7 HB7 HA7 HSUB7 hb7
                obtain ⟨j, MT, hj, rfl, hl, hB, hA, hbr, hsub⟩ := hrel
                obtain ⟨A6, c6, rfl, hs6⟩ := own_sl hA.row
                obtain ⟨nj, hnj⟩ : ∃ n, MT.length = n := ⟨_, rfl⟩
                have hr6 := hA.row
                have hc6 : nj ≤ c6 := by have := hs6.cap; omega
                have hm6 := hs6.max
                rw [hnj] at hA hr6 hs6 hl ⊢
                have HB6 := Lib.hid hB
                have HA6 := Lib.hid hA
                have HAR6 := Lib.hid hr6
                have HNN6 := Lib.hid hnj
                have HSUB6 := Lib.hid hsub
                clear hA hr6 hs6 hsub
                have hlen := blen_any _ hB
                rw [frs_len, hnj] at hlen
                have HLEN := Lib.hid hlen
                clear hlen hnj hB
                have hnn : ((nj : Int) == (nj : Int)) = true := by simp
                have hnn' : ((nj : Int) != (nj : Int)) = false := by simp
                by_cases hn0 : 0 < nj
                · by_cases hjR : j < R
                  · have hsp := hp.after (by decide) hbr
                    obtain ⟨pd, x, rfl, hx, hcx⟩ := hsp.nth hjR
                    rw [List.getElem?_map] at hx
                    obtain ⟨z, hz, rfl⟩ := Option.map_eq_some_iff.1 hx
                    have rz := hpr z (List.mem_of_getElem? hz)
                    have hnz : ((nj : Int) == 0) = false := by simp; omega
                    have hnz' : ¬ (nj : Int) = 0 := by omega
                    have ht1 : z.tmod (nj : Int) < (nj : Int) := Int.tmod_lt_of_pos _ (by omega)
                    have ht2 : -(nj : Int) < z.tmod (nj : Int) := Int.lt_tmod_of_pos _ (by omega)
                    obtain ⟨t, ht⟩ : ∃ t, z.tmod (nj : Int) = t := ⟨_, rfl⟩
                    rw [ht] at ht1 ht2
                    have hwt : IntKind.i64.wrap t = t := by rw [IntKind.wrap_i64]; omega
                    clear hsp hx hz
                    go_wp2_with fail
                    refine HLEN.out.mono ?_
                    rintro e _ ⟨rfl, rfl⟩
                    by_cases hneg : t < 0
                    · go_wp2
                      go_ret
                      exact ⟨by first | rfl | simp, hbr⟩
                    · obtain ⟨q, rfl⟩ : ∃ q : Nat, t = q := ⟨t.toNat, by omega⟩
                      have hq : q < nj := by omega
                      have hg : ∃ ad, A6 = some ad := by obtain ⟨A', c', e, hs'⟩ := own_sl HAR6.out; injection e with e1 e2 e3; subst e1; obtain ⟨ad, e, _⟩ := hs'.at_ hn0; exact ⟨ad, e⟩
                      obtain ⟨ed, rfl⟩ := hg
                      obtain ⟨m, hmk⟩ : ∃ m, MT[q]? = some m := ⟨_, List.getElem?_eq_getElem (by rw [HNN6.out]; omega)⟩
                      have hmm := HSUB6.out m (List.mem_of_getElem? hmk)
                      have HMK := Lib.hid hmk
                      have HMM := Lib.hid hmm
                      clear hmm
                      obtain ⟨M, hM⟩ : ∃ M, M = m := ⟨_, rfl⟩
                      rw [← hM] at HMK HMM
                      have hMl : mlist M = mlist m := by rw [hM]
                      have V1 : M.v = .agg (mlist m).toArray := by rw [hM]; rfl
                      have hcs : ∀ W lo hi n c ad, Sl W lo hi 10 (some ad) n c (mscells MT) → _ := fun W lo hi n c ad h => h.msgAt hmk
                      clear hmk hM
                      obtain ⟨k1, f1, t1, te1, ix1, pr1, co1, ok1, dA1, dc1, d1, eA1, ec1, es1⟩ := m
                      simp only [mlist] at V1 hMl
                      simp only at hcs
                      generalize d1.length = dn1 at V1 hMl hcs
                      generalize es1.length = en1 at V1 hMl hcs
                      have HCS := Lib.hid hcs
                      have HV := Lib.hid V1
                      have HML := Lib.hid hMl
                      clear V1 hMl hcs d1 es1
                      have hup := un_pk HMM.out.2.2 HMM.out.2.1
                      have hC := bdeliver_ok q M.plain.pkL wr HB6.out (frs_at HMK.out) (Nat.le_trans hup.2.2 (by decide)) (by rw [frs_len, HNN6.out]; omega) (hT.below hbr hH0) hH0 hbr.size (by decide) (E := 0) (dE_of hup.1 hup.2.1 rfl) (P := M.plain) (by rw [if_pos rfl]; exact hup.2.1) (n := 1) rfl
                      rw [frs_erase] at hC
                      have HC := Lib.hid hC
                      clear hC hup HLEN ht1 ht2
                      go_wp2_with fail
                      refine HC.out.mono ?_
                      rintro e w8 ⟨m8, rfl, hp8, hm8, hB8, hc8'⟩
                      have hb8 := hbr.trans (hc8'.toBelow HB6.out.low hbr.size)
                      have hA8 := HA6.out.chg hc8' (Sub.refl _ _)
                      obtain ⟨M8, hM8⟩ : ∃ M, M = m8 := ⟨_, rfl⟩
                      have V8 : M8.v = .agg (mlist m8).toArray := by rw [hM8]; rfl
                      rw [← hM8] at hp8 hm8
                      clear hM8 HC hc8' hcx ht hwt hnz hnz' hneg rz
                      obtain ⟨k8, f8, t8, te8, ix8, pr8, co8, ok8, dA8, dc8, d8, eA8, ec8, es8⟩ := m8
                      simp only [mlist] at V8
                      simp only [Msg.v, mcells]
                      generalize d8.length = dn8 at V8 ⊢
                      generalize es8.length = en8 at V8 ⊢
                      clear d8 es8
                      have E3 : Hid (∀ W, IsMsg W M8 → IsMsg W M → Calls Tryd.prog 31 #[.agg #[.int .i64 k8, .int .i64 f8, .int .i64 t8, .int .u64 (te8 : Int), .int .u64 (ix8 : Int), .int .u64 (pr8 : Int), .int .u64 (co8 : Int), .bool ok8, .slice dA8 dn8 dc8, .slice eA8 en8 ec8], .agg #[.int .i64 k1, .int .i64 f1, .int .i64 t1, .int .u64 (te1 : Int), .int .u64 (ix1 : Int), .int .u64 (pr1 : Int), .int .u64 (co1 : Int), .bool ok1, .slice dA1 dn1 dc1, .slice eA1 en1 ec1]] W fun e w' => e = .returned (.bool true) ∧ Below W.heap.size W w') := fun W h1 h2 => by
                        have := msgsame_any M8 M W h1 h2 (b := true) (by simp [hp8])
                        rw [V8, HV.out] at this
                        exact this
                      have OB : Obj := .cells #[.int .i64 k8, .int .i64 f8, .int .i64 t8, .int .u64 (te8 : Int), .int .u64 (ix8 : Int), .int .u64 (pr8 : Int), .int .u64 (co8 : Int), .bool ok8, .slice dA8 dn8 dc8, .slice eA8 en8 ec8] 41
                      clear OB
                      obtain ⟨w9, hw9⟩ : ∃ W, w8.alloc (.cells #[.int .i64 k8, .int .i64 f8, .int .i64 t8, .int .u64 (te8 : Int), .int .u64 (ix8 : Int), .int .u64 (pr8 : Int), .int .u64 (co8 : Int), .bool ok8, .slice dA8 dn8 dc8, .slice eA8 en8 ec8] 41) = W := ⟨_, rfl⟩
                      have hbx := (Below.refl w8.heap.size w8).alloc (Nat.le_refl _) (.cells #[.int .i64 k8, .int .i64 f8, .int .i64 t8, .int .u64 (te8 : Int), .int .u64 (ix8 : Int), .int .u64 (pr8 : Int), .int .u64 (co8 : Int), .bool ok8, .slice dA8 dn8 dc8, .slice eA8 en8 ec8] 41)
                      have B9 := Blk.new w8 41 #[.int .i64 k8, .int .i64 f8, .int .i64 t8, .int .u64 (te8 : Int), .int .u64 (ix8 : Int), .int .u64 (pr8 : Int), .int .u64 (co8 : Int), .bool ok8, .slice dA8 dn8 dc8, .slice eA8 en8 ec8]
                      have Q1 := hm8.after hbx
                      have Q2 := (HMM.out.1.after hb8).after hbx
                      have hA9 := hA8.below hbx
                      have hB9 := hB8.after hbx
                      have hb9 := hb8.trans (hbx.mono hb8.size)
                      rw [hw9] at hbx B9 Q1 Q2 hA9 hB9 hb9
                      have hr9 := hA9.row
                      rw [HNN6.out] at hr9
                      have hsl9 : Sl w9 w.heap.size w9.heap.size 10 (some ed) nj c6 (mscells MT) := by obtain ⟨A', c', e, hs'⟩ := own_sl hr9; injection e with e1 e2 e3; subst e1 e3; exact hs'
                      obtain ⟨x0, x1, x2, x3, x4, x5, x6, x7, x8, x9⟩ := B9.c10
                      obtain ⟨y0, y1, y2, y3, y4, y5, y6, y7, y8, y9⟩ := HCS.out _ _ _ _ _ _ hsl9
                      subst hw9
                      have HA9 := Lib.hid hA9
                      have HAR9 := Lib.hid hr9
                      have HB9 := Lib.hid hB9
                      clear hA9 hB9 hr9 hsl9 B9 hbx hA8 hB8 hm8 hp8 HCS HB6 HA6 HAR6
                      go_wp2_with fail
                      go_region_with (first | (go_at_call 31; refine (E3.out _ (by first | exact Q1.drewM 1 | exact Q1.drewM _) (by first | exact Q2.drewM 1 | exact Q2.drewM _)).mono ?_; rintro e w5 ⟨rfl, hb10⟩))
                      all_goals
                        have hb5 : Below w.heap.size w w5 := hb9.trans (Below.mono ⟨hb10.os, hb10.tape, hb10.output, hb10.size, hb10.block⟩ hb9.size)
                        have hB5 := HB9.out.after (w1 := w5) ⟨hb10.os, hb10.tape, hb10.output, hb10.size, hb10.block⟩
                        have hA5 := HA9.out.below (w1 := w5) ⟨hb10.os, hb10.tape, hb10.output, hb10.size, hb10.block⟩
                        have hr5 := hA5.row
                        rw [HNN6.out] at hr5
                        have HB5 := Lib.hid hB5
                        have HA5 := Lib.hid hA5
                        have HAR5 := Lib.hid hr5
                        clear hB5 hA5 hr5 hb10 HB9 HA9 HAR9 Q1 Q2 E3 x0 x1 x2 x3 x4 x5 x6 x7 x8 x9 y0 y1 y2 y3 y4 y5 y6 y7 y8 y9 hb9 hb8
                        have hdc : q ≤ c6 := by omega
                        have hd1 : q + 1 ≤ nj := by omega
                        have hd1c : q + 1 ≤ c6 := by omega
                        obtain ⟨bd2, hbd2⟩ : ∃ x, (if c6 = q + 1 then some ed else some (ed.add ((q + 1) * 10))) = x := ⟨_, rfl⟩
                        have hA2 : 0 < nj - (q + 1) → bd2 = some (ed.add ((q + 1) * 10)) := fun h => by rw [← hbd2, if_neg (by omega)]
                        have hsl5 : Sl w5 w.heap.size w5.heap.size 10 (some ed) nj c6 (mscells MT) := by obtain ⟨A', c', e, hs'⟩ := own_sl HAR5.out; injection e with e1 e2 e3; subst e1 e3; exact hs'
                        have s1 := hsl5.sub (A' := some ed) (k := 0) (m := q) (c' := c6) (by omega) hdc hm6 (fun _ => by rw [Nat.zero_mul]; exact (map_add0 _).symm)
                        have s2 := hsl5.sub (A' := bd2) (k := q + 1) (m := nj - (q + 1)) (c' := c6 - (q + 1)) (by omega) (by omega) (by omega) hA2
                        have hS1 : ∀ W, Below w5.heap.size w5 W → Sl W w.heap.size w5.heap.size 10 (some ed) q c6 _ := fun W hW => s1.after (by decide) hW
                        have hS2 : ∀ W, Below w5.heap.size w5 W → Sl W w.heap.size w5.heap.size 10 bd2 (nj - (q + 1)) (c6 - (q + 1)) _ := fun W hW => s2.after (by decide) hW
                        have HS1 := Lib.hid hS1
                        have HS2 := Lib.hid hS2
                        have h1 : ∀ k m, ∀ u ∈ ((mscells MT).drop k).take m, u.oneCell' = true := fun k m u hu => ms_one _ u (List.mem_of_mem_drop (List.mem_of_mem_take hu))
                        have H1 := Lib.hid h1
                        have hbs := hb5.size
                        have hwr : IntKind.i64.wrap ((q : Int) + 1) = (q : Int) + 1 := by rw [IntKind.wrap_i64]; omega
                        have hp0 : (0 : Int) ≤ (q : Int) + 1 := by omega
                        have hp1 : (q : Int) + 1 ≤ (nj : Int) := by omega
                        have hp2 : ((q : Int) + 1).toNat = q + 1 := by omega
                        clear hA2 hsl5 s1 s2 hS1 hS2 h1
                        go_wp2_with fail
                        go_region_law (first
                          | (refine step_app _ rfl (.tmp 156) (.tmp 159) 65 rfl w.heap.size 41 i0 _ 10 112 Tryd.underlying65 hi0 hz0 hz1 hz2 rfl (by omega) (.slice (some ⟨w5.heap.size, 0, none⟩) 0 0) 0 [] (by simp [Act.eval, Act.put]) (by first | exact own_wide (own_empty w5 _ 10 _ rfl) hbs | exact own_drewN (own_wide (own_empty w5 _ 10 _ rfl) hbs) 1) _ _ (some ed) q c6 _ (by simp [Act.eval, Act.put]) (HS1.out _ (by first | exact ((Below.refl _ _).alloc (Nat.le_refl _) _) | exact below_drewN ((Below.refl _ _).alloc (Nat.le_refl _) _) 1)) (H1.out _ _) (by simp only [maxLen]; omega) (by omega) (by show _ ≤ (w5.alloc _).heap.size; rw [alloc_size]; omega) ?_; intro v1 w6 o6 g6 a6; have D6 : Below w5.heap.size w5 w6 := (by first | exact ((Below.refl _ _).alloc (Nat.le_refl _) _).grown g6 (by show w5.heap.size ≤ (w5.alloc _).heap.size; rw [alloc_size]; omega) (fun k hk => by have h' : some w5.heap.size = some k := hk; injection h' with h'; omega) | exact (below_drewN ((Below.refl _ _).alloc (Nat.le_refl _) _) 1).grown g6 (by show w5.heap.size ≤ (w5.alloc _).heap.size; rw [alloc_size]; omega) (fun k hk => by have h' : some w5.heap.size = some k := hk; injection h' with h'; omega)); obtain ⟨Ax, cx, hv6, -⟩ := own_sl o6; subst hv6)
                          | (refine step_app _ rfl (.tmp 160) (.tmp 164) 65 rfl w.heap.size 41 i0 _ 10 112 Tryd.underlying65 hi0 hz0 hz1 hz2 rfl (by omega) (.slice Ax (0 + q) cx) (0 + q) _ (by simp [Act.eval, Act.put]) o6 _ _ bd2 (nj - (q + 1)) (c6 - (q + 1)) _ (by simp [Act.eval, Act.put]) (HS2.out _ D6) (H1.out _ _) (by simp only [maxLen]; omega) (by omega) (by have := D6.size; omega) ?_; intro v2 w7 o7 g7 a7))
                        all_goals
                          obtain ⟨hB7, hA7, hb7⟩ := erase_row (ms := MT) (d := q) (m := nj - (q + 1)) (w0 := w) (w2 := w7) HB5.out hb5 hb5.size (by rw [HNN6.out]; omega) o7 (by first | exact g6 | exact ⟨g6.os, g6.tape, g6.output, g6.size, g6.block⟩) (by exact a6) g7 a7
                          have hsub7 : ∀ m ∈ MT.eraseIdx q, IsMsg w m ∧ m.plain.fits ∧ m.plain.pkE = 0 := fun m h => HSUB6.out m (List.mem_of_mem_eraseIdx h)
                          have hl7 : (MT.eraseIdx q).length ≤ 51 := Nat.le_trans (List.length_eraseIdx_le _ _) (by rw [HNN6.out]; exact hl)
                          have HB7 := Lib.hid hB7
                          have HA7 := Lib.hid hA7
                          have HSUB7 := Lib.hid hsub7
                          have HL7 := Lib.hid hl7
                          clear hB7 hA7 hsub7 hl7 HB5 HA5 HAR5 o6 o7 g6 g7 a6 a7 D6 HS1 HS2 H1 HNN6 HSUB6 hbd2 hwr hp0 hp1 hp2 hdc hd1 hd1c hbs
                          go_wp2
                          go_roundw
                          case rel => exact ⟨j + 1, MT.eraseIdx q, by omega, by first | rfl | go_num, HL7.out, HB7.out, HA7.out, hb7, HSUB7.out⟩
                          case measure => simp [intOf]; omega
                  · go_wp2_with fail
                    refine HLEN.out.mono ?_
                    rintro e _ ⟨rfl, rfl⟩
                    go_wp2
                    go_ret
                    exact ⟨by first | rfl | simp, hbr⟩
                · go_wp2_with fail
                  all_goals
                    refine HLEN.out.mono ?_
                    rintro e _ ⟨rfl, rfl⟩
                    go_wp2
                    go_ret
                    exact ⟨by first | rfl | simp, hbr⟩
          · have hC := bdrop_no dr wr HB.out (by rw [frs_len, HNN.out]; exact hdr)
            have HC := Lib.hid hC
            have hl7 : MS.length ≤ 51 := by rw [HNN.out]; exact hl4
            have HL7 := Lib.hid hl7
            clear hC hdr hl7
            refine HC.out.mono ?_
            rintro e _ ⟨rfl, rfl⟩
            clear HC HAR HNN hc3 hm3 hl4
            go_wp2_with fail
            go_loopw [11, 16] (fun v i wr => ∃ (j : Nat) (MS : List Msg), j ≤ R ∧ i = .int .i64 j ∧ MS.length ≤ 51 ∧ BagAt w.heap.size wr O g (frs MS) [] 0 ∧ AllRow w.heap.size wr O v MS ∧ Below w.heap.size w wr ∧ ∀ m ∈ MS, IsMsg w m ∧ m.plain.fits ∧ m.plain.pkE = 0) (fun _ i _ => R - (intOf i).toNat)
            case atStart => exact ⟨0, MS, Nat.zero_le _, rfl, HL7.out, HB.out, HA.out, hbr, HSUB.out⟩
            case round =>
              clear HL7 HB HA HSUB hbr
              obtain ⟨j, MT, hj, rfl, hl, hB, hA, hbr, hsub⟩ := hrel
              obtain ⟨A6, c6, rfl, hs6⟩ := own_sl hA.row
              obtain ⟨nj, hnj⟩ : ∃ n, MT.length = n := ⟨_, rfl⟩
              have hr6 := hA.row
              have hc6 : nj ≤ c6 := by have := hs6.cap; omega
              have hm6 := hs6.max
              rw [hnj] at hA hr6 hs6 hl ⊢
              have HB6 := Lib.hid hB
              have HA6 := Lib.hid hA
              have HAR6 := Lib.hid hr6
              have HNN6 := Lib.hid hnj
              have HSUB6 := Lib.hid hsub
              clear hA hr6 hs6 hsub
              have hlen := blen_any _ hB
              rw [frs_len, hnj] at hlen
              have HLEN := Lib.hid hlen
              clear hlen hnj hB
              have hnn : ((nj : Int) == (nj : Int)) = true := by simp
              have hnn' : ((nj : Int) != (nj : Int)) = false := by simp
              by_cases hn0 : 0 < nj
              · by_cases hjR : j < R
                · have hsp := hp.after (by decide) hbr
                  obtain ⟨pd, x, rfl, hx, hcx⟩ := hsp.nth hjR
                  rw [List.getElem?_map] at hx
                  obtain ⟨z, hz, rfl⟩ := Option.map_eq_some_iff.1 hx
                  have rz := hpr z (List.mem_of_getElem? hz)
                  have hnz : ((nj : Int) == 0) = false := by simp; omega
                  have hnz' : ¬ (nj : Int) = 0 := by omega
                  have ht1 : z.tmod (nj : Int) < (nj : Int) := Int.tmod_lt_of_pos _ (by omega)
                  have ht2 : -(nj : Int) < z.tmod (nj : Int) := Int.lt_tmod_of_pos _ (by omega)
                  obtain ⟨t, ht⟩ : ∃ t, z.tmod (nj : Int) = t := ⟨_, rfl⟩
                  rw [ht] at ht1 ht2
                  have hwt : IntKind.i64.wrap t = t := by rw [IntKind.wrap_i64]; omega
                  clear hsp hx hz
                  go_wp2_with fail
                  refine HLEN.out.mono ?_
                  rintro e _ ⟨rfl, rfl⟩
                  by_cases hneg : t < 0
                  · go_wp2
                    go_ret
                    exact ⟨by first | rfl | simp, hbr⟩
                  · obtain ⟨q, rfl⟩ : ∃ q : Nat, t = q := ⟨t.toNat, by omega⟩
                    have hq : q < nj := by omega
                    have hg : ∃ ad, A6 = some ad := by obtain ⟨A', c', e, hs'⟩ := own_sl HAR6.out; injection e with e1 e2 e3; subst e1; obtain ⟨ad, e, _⟩ := hs'.at_ hn0; exact ⟨ad, e⟩
                    obtain ⟨ed, rfl⟩ := hg
                    obtain ⟨m, hmk⟩ : ∃ m, MT[q]? = some m := ⟨_, List.getElem?_eq_getElem (by rw [HNN6.out]; omega)⟩
                    have hmm := HSUB6.out m (List.mem_of_getElem? hmk)
                    have HMK := Lib.hid hmk
                    have HMM := Lib.hid hmm
                    clear hmm
                    obtain ⟨M, hM⟩ : ∃ M, M = m := ⟨_, rfl⟩
                    rw [← hM] at HMK HMM
                    have hMl : mlist M = mlist m := by rw [hM]
                    have V1 : M.v = .agg (mlist m).toArray := by rw [hM]; rfl
                    have hcs : ∀ W lo hi n c ad, Sl W lo hi 10 (some ad) n c (mscells MT) → _ := fun W lo hi n c ad h => h.msgAt hmk
                    clear hmk hM
                    obtain ⟨k1, f1, t1, te1, ix1, pr1, co1, ok1, dA1, dc1, d1, eA1, ec1, es1⟩ := m
                    simp only [mlist] at V1 hMl
                    simp only at hcs
                    generalize d1.length = dn1 at V1 hMl hcs
                    generalize es1.length = en1 at V1 hMl hcs
                    have HCS := Lib.hid hcs
                    have HV := Lib.hid V1
                    have HML := Lib.hid hMl
                    clear V1 hMl hcs d1 es1
                    have hup := un_pk HMM.out.2.2 HMM.out.2.1
                    have hC := bdeliver_ok q M.plain.pkL wr HB6.out (frs_at HMK.out) (Nat.le_trans hup.2.2 (by decide)) (by rw [frs_len, HNN6.out]; omega) (hT.below hbr hH0) hH0 hbr.size (by decide) (E := 0) (dE_of hup.1 hup.2.1 rfl) (P := M.plain) (by rw [if_pos rfl]; exact hup.2.1) (n := 0) rfl
                    rw [frs_erase] at hC
                    have HC := Lib.hid hC
                    clear hC hup HLEN ht1 ht2
                    go_wp2_with fail
                    refine HC.out.mono ?_
                    rintro e w8 ⟨m8, rfl, hp8, hm8, hB8, hc8'⟩
                    have hb8 := hbr.trans (hc8'.toBelow HB6.out.low hbr.size)
                    have hA8 := HA6.out.chg hc8' (Sub.refl _ _)
                    obtain ⟨M8, hM8⟩ : ∃ M, M = m8 := ⟨_, rfl⟩
                    have V8 : M8.v = .agg (mlist m8).toArray := by rw [hM8]; rfl
                    rw [← hM8] at hp8 hm8
                    clear hM8 HC hc8' hcx ht hwt hnz hnz' hneg rz
                    obtain ⟨k8, f8, t8, te8, ix8, pr8, co8, ok8, dA8, dc8, d8, eA8, ec8, es8⟩ := m8
                    simp only [mlist] at V8
                    simp only [Msg.v, mcells]
                    generalize d8.length = dn8 at V8 ⊢
                    generalize es8.length = en8 at V8 ⊢
                    clear d8 es8
                    have E3 : Hid (∀ W, IsMsg W M8 → IsMsg W M → Calls Tryd.prog 31 #[.agg #[.int .i64 k8, .int .i64 f8, .int .i64 t8, .int .u64 (te8 : Int), .int .u64 (ix8 : Int), .int .u64 (pr8 : Int), .int .u64 (co8 : Int), .bool ok8, .slice dA8 dn8 dc8, .slice eA8 en8 ec8], .agg #[.int .i64 k1, .int .i64 f1, .int .i64 t1, .int .u64 (te1 : Int), .int .u64 (ix1 : Int), .int .u64 (pr1 : Int), .int .u64 (co1 : Int), .bool ok1, .slice dA1 dn1 dc1, .slice eA1 en1 ec1]] W fun e w' => e = .returned (.bool true) ∧ Below W.heap.size W w') := fun W h1 h2 => by
                      have := msgsame_any M8 M W h1 h2 (b := true) (by simp [hp8])
                      rw [V8, HV.out] at this
                      exact this
                    have OB : Obj := .cells #[.int .i64 k8, .int .i64 f8, .int .i64 t8, .int .u64 (te8 : Int), .int .u64 (ix8 : Int), .int .u64 (pr8 : Int), .int .u64 (co8 : Int), .bool ok8, .slice dA8 dn8 dc8, .slice eA8 en8 ec8] 41
                    clear OB
                    obtain ⟨w9, hw9⟩ : ∃ W, w8.alloc (.cells #[.int .i64 k8, .int .i64 f8, .int .i64 t8, .int .u64 (te8 : Int), .int .u64 (ix8 : Int), .int .u64 (pr8 : Int), .int .u64 (co8 : Int), .bool ok8, .slice dA8 dn8 dc8, .slice eA8 en8 ec8] 41) = W := ⟨_, rfl⟩
                    have hbx := (Below.refl w8.heap.size w8).alloc (Nat.le_refl _) (.cells #[.int .i64 k8, .int .i64 f8, .int .i64 t8, .int .u64 (te8 : Int), .int .u64 (ix8 : Int), .int .u64 (pr8 : Int), .int .u64 (co8 : Int), .bool ok8, .slice dA8 dn8 dc8, .slice eA8 en8 ec8] 41)
                    have B9 := Blk.new w8 41 #[.int .i64 k8, .int .i64 f8, .int .i64 t8, .int .u64 (te8 : Int), .int .u64 (ix8 : Int), .int .u64 (pr8 : Int), .int .u64 (co8 : Int), .bool ok8, .slice dA8 dn8 dc8, .slice eA8 en8 ec8]
                    have Q1 := hm8.after hbx
                    have Q2 := (HMM.out.1.after hb8).after hbx
                    have hA9 := hA8.below hbx
                    have hB9 := hB8.after hbx
                    have hb9 := hb8.trans (hbx.mono hb8.size)
                    rw [hw9] at hbx B9 Q1 Q2 hA9 hB9 hb9
                    have hr9 := hA9.row
                    rw [HNN6.out] at hr9
                    have hsl9 : Sl w9 w.heap.size w9.heap.size 10 (some ed) nj c6 (mscells MT) := by obtain ⟨A', c', e, hs'⟩ := own_sl hr9; injection e with e1 e2 e3; subst e1 e3; exact hs'
                    obtain ⟨x0, x1, x2, x3, x4, x5, x6, x7, x8, x9⟩ := B9.c10
                    obtain ⟨y0, y1, y2, y3, y4, y5, y6, y7, y8, y9⟩ := HCS.out _ _ _ _ _ _ hsl9
                    subst hw9
                    have HA9 := Lib.hid hA9
                    have HAR9 := Lib.hid hr9
                    have HB9 := Lib.hid hB9
                    clear hA9 hB9 hr9 hsl9 B9 hbx hA8 hB8 hm8 hp8 HCS HB6 HA6 HAR6
                    go_wp2_with fail
                    go_region_with (first | (go_at_call 31; refine (E3.out _ (by first | exact Q1.drewM 1 | exact Q1.drewM _) (by first | exact Q2.drewM 1 | exact Q2.drewM _)).mono ?_; rintro e w5 ⟨rfl, hb10⟩))
                    all_goals
                      have hb5 : Below w.heap.size w w5 := hb9.trans (Below.mono ⟨hb10.os, hb10.tape, hb10.output, hb10.size, hb10.block⟩ hb9.size)
                      have hB5 := HB9.out.after (w1 := w5) ⟨hb10.os, hb10.tape, hb10.output, hb10.size, hb10.block⟩
                      have hA5 := HA9.out.below (w1 := w5) ⟨hb10.os, hb10.tape, hb10.output, hb10.size, hb10.block⟩
                      have hr5 := hA5.row
                      rw [HNN6.out] at hr5
                      have HB5 := Lib.hid hB5
                      have HA5 := Lib.hid hA5
                      have HAR5 := Lib.hid hr5
                      clear hB5 hA5 hr5 hb10 HB9 HA9 HAR9 Q1 Q2 E3 x0 x1 x2 x3 x4 x5 x6 x7 x8 x9 y0 y1 y2 y3 y4 y5 y6 y7 y8 y9 hb9 hb8
                      have hdc : q ≤ c6 := by omega
                      have hd1 : q + 1 ≤ nj := by omega
                      have hd1c : q + 1 ≤ c6 := by omega
                      obtain ⟨bd2, hbd2⟩ : ∃ x, (if c6 = q + 1 then some ed else some (ed.add ((q + 1) * 10))) = x := ⟨_, rfl⟩
                      have hA2 : 0 < nj - (q + 1) → bd2 = some (ed.add ((q + 1) * 10)) := fun h => by rw [← hbd2, if_neg (by omega)]
                      have hsl5 : Sl w5 w.heap.size w5.heap.size 10 (some ed) nj c6 (mscells MT) := by obtain ⟨A', c', e, hs'⟩ := own_sl HAR5.out; injection e with e1 e2 e3; subst e1 e3; exact hs'
                      have s1 := hsl5.sub (A' := some ed) (k := 0) (m := q) (c' := c6) (by omega) hdc hm6 (fun _ => by rw [Nat.zero_mul]; exact (map_add0 _).symm)
                      have s2 := hsl5.sub (A' := bd2) (k := q + 1) (m := nj - (q + 1)) (c' := c6 - (q + 1)) (by omega) (by omega) (by omega) hA2
                      have hS1 : ∀ W, Below w5.heap.size w5 W → Sl W w.heap.size w5.heap.size 10 (some ed) q c6 _ := fun W hW => s1.after (by decide) hW
                      have hS2 : ∀ W, Below w5.heap.size w5 W → Sl W w.heap.size w5.heap.size 10 bd2 (nj - (q + 1)) (c6 - (q + 1)) _ := fun W hW => s2.after (by decide) hW
                      have HS1 := Lib.hid hS1
                      have HS2 := Lib.hid hS2
                      have h1 : ∀ k m, ∀ u ∈ ((mscells MT).drop k).take m, u.oneCell' = true := fun k m u hu => ms_one _ u (List.mem_of_mem_drop (List.mem_of_mem_take hu))
                      have H1 := Lib.hid h1
                      have hbs := hb5.size
                      have hwr : IntKind.i64.wrap ((q : Int) + 1) = (q : Int) + 1 := by rw [IntKind.wrap_i64]; omega
                      have hp0 : (0 : Int) ≤ (q : Int) + 1 := by omega
                      have hp1 : (q : Int) + 1 ≤ (nj : Int) := by omega
                      have hp2 : ((q : Int) + 1).toNat = q + 1 := by omega
                      clear hA2 hsl5 s1 s2 hS1 hS2 h1
                      go_wp2_with fail
                      go_region_law (first
                        | (refine step_app _ rfl (.tmp 156) (.tmp 159) 65 rfl w.heap.size 41 i0 _ 10 112 Tryd.underlying65 hi0 hz0 hz1 hz2 rfl (by omega) (.slice (some ⟨w5.heap.size, 0, none⟩) 0 0) 0 [] (by simp [Act.eval, Act.put]) (by first | exact own_wide (own_empty w5 _ 10 _ rfl) hbs | exact own_drewN (own_wide (own_empty w5 _ 10 _ rfl) hbs) 1) _ _ (some ed) q c6 _ (by simp [Act.eval, Act.put]) (HS1.out _ (by first | exact ((Below.refl _ _).alloc (Nat.le_refl _) _) | exact below_drewN ((Below.refl _ _).alloc (Nat.le_refl _) _) 1)) (H1.out _ _) (by simp only [maxLen]; omega) (by omega) (by show _ ≤ (w5.alloc _).heap.size; rw [alloc_size]; omega) ?_; intro v1 w6 o6 g6 a6; have D6 : Below w5.heap.size w5 w6 := (by first | exact ((Below.refl _ _).alloc (Nat.le_refl _) _).grown g6 (by show w5.heap.size ≤ (w5.alloc _).heap.size; rw [alloc_size]; omega) (fun k hk => by have h' : some w5.heap.size = some k := hk; injection h' with h'; omega) | exact (below_drewN ((Below.refl _ _).alloc (Nat.le_refl _) _) 1).grown g6 (by show w5.heap.size ≤ (w5.alloc _).heap.size; rw [alloc_size]; omega) (fun k hk => by have h' : some w5.heap.size = some k := hk; injection h' with h'; omega)); obtain ⟨Ax, cx, hv6, -⟩ := own_sl o6; subst hv6)
                        | (refine step_app _ rfl (.tmp 160) (.tmp 164) 65 rfl w.heap.size 41 i0 _ 10 112 Tryd.underlying65 hi0 hz0 hz1 hz2 rfl (by omega) (.slice Ax (0 + q) cx) (0 + q) _ (by simp [Act.eval, Act.put]) o6 _ _ bd2 (nj - (q + 1)) (c6 - (q + 1)) _ (by simp [Act.eval, Act.put]) (HS2.out _ D6) (H1.out _ _) (by simp only [maxLen]; omega) (by omega) (by have := D6.size; omega) ?_; intro v2 w7 o7 g7 a7))
                      all_goals
                        obtain ⟨hB7, hA7, hb7⟩ := erase_row (ms := MT) (d := q) (m := nj - (q + 1)) (w0 := w) (w2 := w7) HB5.out hb5 hb5.size (by rw [HNN6.out]; omega) o7 (by first | exact g6 | exact ⟨g6.os, g6.tape, g6.output, g6.size, g6.block⟩) (by exact a6) g7 a7
                        have hsub7 : ∀ m ∈ MT.eraseIdx q, IsMsg w m ∧ m.plain.fits ∧ m.plain.pkE = 0 := fun m h => HSUB6.out m (List.mem_of_mem_eraseIdx h)
                        have hl7 : (MT.eraseIdx q).length ≤ 51 := Nat.le_trans (List.length_eraseIdx_le _ _) (by rw [HNN6.out]; exact hl)
                        have HB7 := Lib.hid hB7
                        have HA7 := Lib.hid hA7
                        have HSUB7 := Lib.hid hsub7
                        have HL7 := Lib.hid hl7
                        clear hB7 hA7 hsub7 hl7 HB5 HA5 HAR5 o6 o7 g6 g7 a6 a7 D6 HS1 HS2 H1 HNN6 HSUB6 hbd2 hwr hp0 hp1 hp2 hdc hd1 hd1c hbs
                        go_wp2
                        go_roundw
                        case rel => exact ⟨j + 1, MT.eraseIdx q, by omega, by first | rfl | go_num, HL7.out, HB7.out, HA7.out, hb7, HSUB7.out⟩
                        case measure => simp [intOf]; omega
                · go_wp2_with fail
                  refine HLEN.out.mono ?_
                  rintro e _ ⟨rfl, rfl⟩
                  go_wp2
                  go_ret
                  exact ⟨by first | rfl | simp, hbr⟩
              · go_wp2_with fail
                all_goals
                  refine HLEN.out.mono ?_
                  rintro e _ ⟨rfl, rfl⟩
                  go_wp2
                  go_ret
                  exact ⟨by first | rfl | simp, hbr⟩
end Go.Proofs.YtciolppoanfiaaaDoor
