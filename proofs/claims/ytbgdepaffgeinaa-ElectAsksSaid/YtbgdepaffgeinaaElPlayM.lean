/- A node of a group hears a message. -/
import Derived.Test.YtbgdepaffgeinaaElPlay
import Derived.Test.YtbgdepaffgeinaaElHear
import Derived.Deep.DeepCutAuto
namespace Go.Proofs.Ytbgdepaffgeinaa
open Go.RowKit
section
variable {H : Nat} {w : World} {g : Nat} {r : GR} {xs : List GN} {G : GP}
theorem cell_dn {w : World} {p : Addr} {u : Value} (h : w.cell? p = some u) (n : Nat) : (w.drewN n).cell? p = some u := h
theorem Sl.own_msg {w : World} {lo hi n c k bm : Nat} {ms : List Ms} (h : Sl w lo hi 10 (some ⟨bm, 0, none⟩) n c (mcells ms)) {m : Ms} (hm : ms[k]? = some m) {j : Nat} {u : Value} (hu : m.cells[j]? = some u) : w.cell? ⟨bm, k * 10 + j, none⟩ = some u := by
  have hl : ms.length = n := by have := h.len; rw [mcells_len] at this; omega
  have hk := (List.getElem?_eq_some_iff.1 hm).1
  obtain ⟨ad, e, _, _, hc⟩ := h.at_ (by omega)
  injection e with e
  subst e
  have := hc _ _ (mcells_at ms k _ j u hm hu)
  rw [addr0] at this
  exact this
set_option maxRecDepth 100000 in
set_option maxHeartbeats 6400000 in
theorem play_hear (k i : Nat) (m : Ms) (x : ND) (w : World) (h : GrpP H w g r xs G) (hkm : G.msgs[k]? = some m) (hdst : m.dst = (i : Int)) (hi : G.nodes[i]? = some x) (hok : x.Ok) (hyl : x.yes.length ≤ 10000) (hmt : m.term < 4611686018427387904) (hn5 : G.nodes.length ≤ 5) (hm : G.msgs.length ≤ 10000) (ht : G.terms.length ≤ 10000) (hl : G.leads.length ≤ 10000) (hms : (x.hear m).2.length ≤ 1000) :
    Calls Try.prog 45 #[.pointer (some ⟨g, 0, none⟩), .agg #[.int .i64 3, .int .i64 (k : Int)]] w fun e w' => e = .returned (.tuple #[]) ∧ ∃ r' xs', GrpP H w' g r' xs' (G.done i (x.hear m)) ∧ Chg (GrpOwn r g xs) w w' := by
  obtain ⟨y, hy, rfl⟩ := h.nodeAt hi
  have x0 : w.cell? ⟨g, 0, none⟩ = some r.nv := h.blk.cell 0
  obtain ⟨ad, c, hv, hp, hcap, hmax⟩ := h.ptr hy
  rw [hv] at x0
  have x1 : w.cell? ⟨g, 1, none⟩ = some r.mv := h.blk.cell 1
  have hkl := (List.getElem?_eq_some_iff.1 hkm).1
  obtain ⟨bm, cm0, hmv0, -, hbml, hsm⟩ := own_at h.msgs (by omega)
  rw [hmv0] at x1
  have hmc : ∀ j u, m.cells[j]? = some u → w.cell? ⟨bm, k * 10 + j, none⟩ = some u := fun j u hu => hsm.own_msg hkm hu
  have hgl := h.blk.lt
  have hne : g ≠ w.heap.size := by omega
  have hil := (List.getElem?_eq_some_iff.1 hy).1
  have hxl := h.len
  have hN := h.node y (List.mem_of_getElem? hy)
  have hcapm := hsm.cap
  have hmaxm := hsm.max
  have m0 := hmc 0 _ rfl
  have m1 := hmc 1 _ rfl
  have m2 := hmc 2 _ rfl
  have m3 := hmc 3 _ rfl
  have m4 := hmc 4 _ rfl
  have m5 := hmc 5 _ rfl
  have m6 := hmc 6 _ rfl
  have m7 := hmc 7 _ rfl
  have m8 := hmc 8 _ rfl
  have m9 := hmc 9 _ rfl
  rw [hdst] at m2
  have HH := Lib.hid h
  have HN := Lib.hid hN
  rw [Nat.add_zero] at m0
  clear h hv hN hmc hsm hmv0 hi
  generalize hnn : xs.length = n at x0 hil hcap
  have HNN := Lib.hid hnn
  have HIL := Lib.hid hil
  generalize hnm : G.msgs.length = nm at x1 hkl hcapm
  have HNM := Lib.hid hnm
  clear hnn hnm
  go_enter Try.func45, Try.ntmps45
  go_wp2
  go_quiet (fail)
  have A1 : Aft w ((w.alloc (.cells #[.int .i64 3, .int .i64 (k : Int)] 78)).drewN nq) := below_drewN ((Below.refl _ w).alloc (Nat.le_refl _) _) nq
  have B1 : Blk ((w.alloc (.cells #[.int .i64 3, .int .i64 (k : Int)] 78)).drewN nq) w.heap.size 78 #[.int .i64 3, .int .i64 (k : Int)] := (Blk.new w _ _).drewN nq
  generalize (w.alloc (.cells #[.int .i64 3, .int .i64 (k : Int)] 78)).drewN nq = wd at A1 B1 ⊢
  have n0 := cell_below A1 m0
  have n1 := cell_below A1 m1
  have n2 := cell_below A1 m2
  have n3 := cell_below A1 m3
  have n4 := cell_below A1 m4
  have n5 := cell_below A1 m5
  have n6 := cell_below A1 m6
  have n7 := cell_below A1 m7
  have n8 := cell_below A1 m8
  have n9 := cell_below A1 m9
  have z0 := cell_below A1 x0
  have z1 := cell_below A1 x1
  have zp := cell_below A1 hp
  have o0 : wd.cell? ⟨w.heap.size, 0, none⟩ = some (.int .i64 3) := B1.cell 0
  have o1 : wd.cell? ⟨w.heap.size, 1, none⟩ = some (.int .i64 (k : Int)) := B1.cell 1
  have HA1 := Lib.hid A1
  have HB1 := Lib.hid B1
  clear A1 B1 m0 m1 m2 m3 m4 m5 m6 m7 m8 m9 x0 x1 hp
  go_wp2
  go_quiet (fail)
  go_wp2
  replace n0 := cell_dn n0 nq
  replace n1 := cell_dn n1 nq
  replace n2 := cell_dn n2 nq
  replace n3 := cell_dn n3 nq
  replace n4 := cell_dn n4 nq
  replace n5 := cell_dn n5 nq
  replace n6 := cell_dn n6 nq
  replace n7 := cell_dn n7 nq
  replace n8 := cell_dn n8 nq
  replace n9 := cell_dn n9 nq
  replace z0 := cell_dn z0 nq
  replace z1 := cell_dn z1 nq
  replace zp := cell_dn zp nq
  replace o0 := cell_dn o0 nq
  replace o1 := cell_dn o1 nq
  have A2 : Aft w (wd.drewN nq) := below_drewN HA1.out nq
  have B2 := HB1.out.drewN nq
  clear HA1 HB1
  generalize wd.drewN nq = we at A2 B2 n0 n1 n2 n3 n4 n5 n6 n7 n8 n9 z0 z1 zp o0 o1 ⊢
  have hwl := B2.lt
  have q1 : g ≠ we.heap.size := by omega
  have q2 : bm ≠ we.heap.size := by omega
  have q3 : w.heap.size ≠ we.heap.size := by omega
  have HA2 := Lib.hid A2
  have HB2 := Lib.hid B2
  clear A2 B2
  have AZ : Aft we (we.alloc (.cells #[.int .i64 0, .int .i64 0, .int .i64 0, .int .u64 0, .int .u64 0, .int .u64 0, .int .u64 0, .bool false, .slice none 0 0, .slice none 0 0] 81)) := (Aft.refl we).alloc _
  have pn0 := cell_below AZ n0
  have pn1 := cell_below AZ n1
  have pn2 := cell_below AZ n2
  have pn3 := cell_below AZ n3
  have pn4 := cell_below AZ n4
  have pn5 := cell_below AZ n5
  have pn6 := cell_below AZ n6
  have pn7 := cell_below AZ n7
  have pn8 := cell_below AZ n8
  have pn9 := cell_below AZ n9
  have pz1 := cell_below AZ z1
  have po1 := cell_below AZ o1
  have HAZ := Lib.hid AZ
  clear AZ
  go_cut [8] (fun v wc => v = .pointer (some ⟨we.heap.size, 0, none⟩) ∧ Aft w wc ∧ Blk wc we.heap.size 81 (mrow m.kind m.src i m.term m.index m.prev (.int .u64 0) m.ok (.slice none 0 0) (.slice none 0 0)))
  case first =>
    go_region_law (fail)
    all_goals
      go_wp2
      go_meet
      exact ⟨rfl, (Aft.alloc HA2.out _).drew, (Blk.new we _ _).drew⟩
  case rest =>
    obtain ⟨rfl, hAc, hBc⟩ := hcut
    have hNc := HN.out.after hAc
    have hgc : GrpP H wc g r xs G := HH.out.after hAc
    obtain ⟨t0, t1, t2, t3, t4, t5, t6, t7, t8, t9⟩ := msgAt hBc
    have hyO : ¬ y.O we.heap.size := fun hO => by have := HN.out.top _ hO; have := HA2.out.size; omega
    have HYO := Lib.hid hyO
    have HASK := Lib.hid (ask_aft m.kind m.src i m.term m.index m.prev (.int .u64 0) m.ok (.slice none 0 0) (.slice none 0 0) wc hNc hok)
    have HOK := Lib.hid (nd_ok_ask y.x m.kind m.src m.term m.index m.prev hok hmt)
    have HBC := Lib.hid hBc
    have HAC := Lib.hid hAc
    have HNC := Lib.hid hNc
    have HYL := Lib.hid hyl
    obtain ⟨i0, hi0, hz0, hz1, hz2⟩ := info_parts msg_info
    obtain ⟨R1, hR1⟩ : ∃ R1, y.x.onAsk m.kind m.src m.term m.index m.prev = R1 := ⟨_, rfl⟩
    obtain ⟨R2, hR2⟩ : ∃ R2, R1.1.onAnswer m.kind m.src m.term m.ok = R2 := ⟨_, rfl⟩
    have hRR : y.x.hear m = (R2.1, R1.2 ++ R2.2) := by subst hR1 hR2; rfl
    have hlen : R1.2.length + R2.2.length ≤ 1000 := by have := hms; rw [hRR] at this; simpa using this
    have HRR := Lib.hid hRR
    have HR2E := Lib.hid hR2
    simp only [hR1] at HASK HOK
    clear hRR hR1 hR2
    clear n0 n1 n2 n3 n4 n5 n6 n7 n8 n9 pn0 pn1 pn2 pn3 pn4 pn5 pn6 pn7 pn8 pn9 pz1 po1 z0 z1 zp o1 hAc hBc hNc hgc hyO hok hyl HAZ HA2 HB2
    go_wp2
    go_region_held3 (fun W' => W'.cell? ⟨we.heap.size, 0, none⟩ = some (.int .i64 m.kind) ∧ W'.cell? ⟨we.heap.size, 1, none⟩ = some (.int .i64 m.src) ∧ W'.cell? ⟨we.heap.size, 2, none⟩ = some (.int .i64 (i : Int)) ∧ W'.cell? ⟨we.heap.size, 3, none⟩ = some (.int .u64 (m.term : Int)) ∧ W'.cell? ⟨we.heap.size, 4, none⟩ = some (.int .u64 (m.index : Int)) ∧ W'.cell? ⟨we.heap.size, 5, none⟩ = some (.int .u64 (m.prev : Int)) ∧ W'.cell? ⟨we.heap.size, 6, none⟩ = some (.int .u64 0) ∧ W'.cell? ⟨we.heap.size, 7, none⟩ = some (.bool m.ok) ∧ W'.cell? ⟨we.heap.size, 8, none⟩ = some (.slice none 0 0) ∧ W'.cell? ⟨we.heap.size, 9, none⟩ = some (.slice none 0 0)) (first | exact ⟨t0, t1, t2, t3, t4, t5, t6, t7, t8, t9⟩ | (with_reducible assumption) | go_keep) (first
      | (go_at_call 47; refine (HASK.out _ (by first | exact Aft.refl _ | exact (Aft.refl _).drew)).mono ?_; rintro e w1 ⟨v1, rfl, p1, O1, hN1, hs1, hc1, hr1, ha1⟩; have hB1 := HBC.out.chg hc1 HYO.out; have hT1 := msgAt hB1; unfold MsgAt at hT1; have HANS := Lib.hid (ans_aft m.kind m.src i m.term m.index m.prev (.int .u64 0) m.ok (.slice none 0 0) (.slice none 0 0) w1 hN1 HOK.out.1 (Nat.le_trans HOK.out.2 HYL.out) hmt); rw [HR2E.out] at HANS; have HN1 := Lib.hid hN1; have HS1 := Lib.hid hs1; have HC1 := Lib.hid hc1; have HR1 := Lib.hid hr1; have HV1 := Lib.hid ha1; have HB1 := Lib.hid hB1; clear hN1 hs1 hc1 hr1 ha1 hB1)
      | (go_at_call 48; refine (HANS.out _ (by first | exact Aft.refl _ | exact (Aft.refl _).drew)).mono ?_; rintro e wb ⟨v2, rfl, p2, O2, hN2, hs2, hc2, hr2, ha2⟩; have hB2 := HB1.out.chg hc2 (fun hO => by rcases HS1.out _ hO with h1 | h1; exact HYO.out h1; have := HBC.out.lt; omega); have hT2 := msgAt hB2; unfold MsgAt at hT2; have HN2b := Lib.hid hN2; have HS2 := Lib.hid hs2; have HC2 := Lib.hid hc2; have HR2 := Lib.hid hr2; have HV2 := Lib.hid ha2; obtain ⟨A2, c2, hv2, hsl2⟩ := own_sl hr2; subst hv2; have HSL2 := Lib.hid hsl2; have HB2 := Lib.hid hB2; have hwc2 : wc.heap.size ≤ wb.heap.size := Nat.le_trans HC1.out.size hc2.size; have hr12 := own_chg HR1.out hc2 HV1.out; have HR12 := Lib.hid hr12; clear hN2 hs2 hc2 hr2 ha2 hB2 hsl2 hr12)
        | (refine step_app _ rfl (.tmp 77) (.tmp 80) 57 rfl wc.heap.size 81 i0 _ 10 112 Try.underlying57 hi0 hz0 hz1 hz2 rfl (by omega) v1 R1.2.length (mcells R1.2) (by simp [Act.eval, Act.put]) HR12.out _ _ A2 R2.2.length c2 (mcells R2.2) (by simp [Act.eval, Act.put]) HSL2.out (mcs_one _) (by simp only [maxLen]; omega) (by omega) hwc2 ?_; intro v w2 o4 g4 a4; have hT4 := msgAt (HB2.out.grown g4 (fun e => by have := (HR1.out.lt _ e.symm).1; have := HBC.out.lt; omega)); unfold MsgAt at hT4; have HO4 := Lib.hid o4; have HG4 := Lib.hid g4; have HA4 := Lib.hid a4; clear o4 g4 a4))
    have hS := Sent.both HNC.out HS1.out HC1.out HR1.out HV1.out HN2b.out HS2.out HC2.out HO4.out HG4.out HA4.out
    rw [← HRR.out] at hS
    obtain ⟨p', O', hN2, hS2, hC2, hrow, hapart⟩ := hS
    have HA1 := HAC
    have hil := HIL.out
    clear HAC HASK HOK HBC HNC HYL HRR HR2E HANS HN1 HS1 HC1 HR1 HV1 HB1 HSL2 HB2 HR12 HN2b HS2 HC2 HV2 HO4 HG4 HA4 hwc2 t0 t1 t2 t3 t4 t5 t6 t7 t8 t9
    have hg1 := HH.out.after HA1.out
    have hg2 := hg1.turn hy hN2 hS2 hC2
    obtain ⟨i0, hi0, hz0, hz1, hz2⟩ := info_parts msg_info
    obtain ⟨Am, cm, hmv, -⟩ := own_sl hg2.msgs
    obtain ⟨Ao, co, hov, hso⟩ := own_sl hrow
    subst hov
    have z1 : w2.cell? ⟨g, 1, none⟩ = some r.mv := hg2.blk.cell 1
    rw [hmv] at z1
    have hml : (y.x.hear m).2.length ≤ 1000 := hms
    have HMS : Hid (w2.ownsRow H 81 10 (.slice Am G.msgs.length cm) G.msgs.length (mcells G.msgs)) := by have := hg2.msgs; rw [hmv] at this; exact this
    have HG2 := Lib.hid hg2
    have HSO := Lib.hid hso
    have HN2 := Lib.hid hN2
    have HB2 := Lib.hid hg2.blk
    have HNB := Lib.hid hN2.blk
    have hHs : H ≤ w2.heap.size := Nat.le_trans hg2.hg (Nat.le_of_lt hg2.blk.lt)
    have hrg : r.mv.ownBlock ≠ some g := row_ne hg2.msgs hg2.blk (by decide)
    have hry : r.mv.ownBlock ≠ some y.b := row_ne hg2.msgs hN2.blk (by decide)
    have hgy : y.b ≠ g := hN2.blk.ne hg2.blk (by decide)
    rw [hmv] at hrg hry
    have HRG := Lib.hid hrg
    have HRY := Lib.hid hry
    have hb2 : w2.cell? ⟨y.b, 2, none⟩ = some (.int .i64 (y.x.hear m).1.role) := hN2.blk.cell 2
    have hb6 : w2.cell? ⟨y.b, 6, none⟩ = some (.int .u64 ((y.x.hear m).1.term : Int)) := hN2.blk.cell 6
    have HBEL : Hid (Chg (GrpOwn r g xs) w w2) := (Chg.below HA1.out).same (hC2.mono fun k hk => .inr ⟨y, List.mem_of_getElem? hy, hk⟩)
    clear hg1 hg2 hN2 hS2 hC2 hrow hapart hso hrg hry
    by_cases hr3 : (y.x.hear m).1.role = 3
    · have HR3 := Lib.hid hr3
      have er : ((y.x.hear m).1.role == 3) = true := by simp [hr3]
      clear hr3
      go_wp2_with (at_builtin; refine wpList_app _ rfl (.tmp 96) (.tmp 97) 57 rfl H 81 i0 _ 10 112 Try.underlying57 hi0 hz0 hz1 hz2 rfl (by omega) (.slice Am G.msgs.length cm) G.msgs.length (mcells G.msgs) rfl HMS.out _ _ Ao (y.x.hear m).2.length co (mcells (y.x.hear m).2) rfl HSO.out (mcs_one _) (by simp only [maxLen]; omega) (by omega) hHs ?_; intro v4 w4 o4 g4 a4; have hq4 := HB2.out.grown g4 (fun e => HRG.out e.symm); have hn4 := HNB.out.grown g4 (fun e => HRY.out e.symm); have u1 : w4.cell? ⟨g, 1, none⟩ = some r.mv := hq4.cell 1; have uf1 := hq4.frozen 1; have u2 : w4.cell? ⟨g, 2, none⟩ = some r.tv := hq4.cell 2; have u3 : w4.cell? ⟨g, 3, none⟩ = some r.lv := hq4.cell 3; have uf2 := hq4.frozen 2; have uf3 := hq4.frozen 3; have b2 : w4.cell? ⟨y.b, 2, none⟩ = some (.int .i64 (y.x.hear m).1.role) := hn4.cell 2; have b6 : w4.cell? ⟨y.b, 6, none⟩ = some (.int .u64 ((y.x.hear m).1.term : Int)) := hn4.cell 6; have HQ4 := Lib.hid hq4; have HNN4 := Lib.hid hn4; obtain ⟨A4, c4, hv4, -⟩ := own_sl o4; subst hv4; clear hq4 hn4)
      obtain ⟨hgA, hcA⟩ := HG2.out.msgs_ (ms := (y.x.hear m).2) (Below.refl _ _) (by rw [mcells_append]; show World.ownsRow _ _ _ _ _ (G.msgs ++ (y.x.hear m).2).length _; rw [List.length_append]; exact o4) (by rw [hmv]; exact g4) (by rw [hmv]; rcases a4 with a4 | a4; exact .inl a4; exact .inr fun k hk => by rw [a4] at hk; injection hk with hk; omega)
      obtain ⟨j0, hj0, hy0, hy1, hy2⟩ := info_parts u64_info
      obtain ⟨At, ct, htv, -⟩ := own_sl hgA.terms
      have hBn := (HNN4.out.far (p := ⟨g, 1, none⟩) hgy (.slice A4 (G.msgs.length + (y.x.hear m).2.length) c4))
      generalize hwA : w4.setCell ⟨g, 1, none⟩ (.slice A4 (G.msgs.length + (y.x.hear m).2.length) c4) = wA at hgA hcA hBn ⊢
      have t2 : wA.cell? ⟨g, 2, none⟩ = some r.tv := hgA.blk.cell 2
      rw [htv] at t2
      have t6 : wA.cell? ⟨y.b, 6, none⟩ = some (.int .u64 ((y.x.hear m).1.term : Int)) := hBn.cell 6
      have hga : g < wA.heap.size := hgA.blk.lt
      have hba : y.b < wA.heap.size := hBn.lt
      have HTS : Hid (wA.ownsRow H 22 1 (.slice At G.terms.length ct) G.terms.length (G.terms.map uv)) := by have := hgA.terms; rw [htv] at this; exact this
      have hrt : r.tv.ownBlock ≠ some g := row_ne hgA.terms hgA.blk (by decide)
      rw [htv] at hrt
      have HRT := Lib.hid hrt
      have HGA := Lib.hid hgA
      have HGB := Lib.hid hgA.blk
      have HCA := Lib.hid hcA
      have hHa : H ≤ wA.heap.size := Nat.le_trans hgA.hg (Nat.le_of_lt hga)
      clear hwA hgA hcA hBn hrt o4 g4 a4 u1 uf1 u2 u3 uf2 uf3 b2 b6 hb2 hb6 z1
      go_region_law (refine step_app _ rfl (.tmp 110) (.tmp 115) 70 rfl H 22 j0 _ 1 8 Try.underlying70 hj0 hy0 hy1 hy2 rfl (by omega) (.slice At G.terms.length ct) G.terms.length (G.terms.map uv) (by simp [Act.eval, Act.put]) (by first | exact own_alloc' HTS.out _ | exact own_drewN (own_alloc' HTS.out _) 1) wA.heap.size (wA.heap.size + 1) (some ⟨wA.heap.size, 0, none⟩) 1 1 [.int .u64 ((y.x.hear m).1.term : Int)] (by simp [Act.eval, Act.put]) (by first | exact sl_one _ _ _ | exact (sl_one _ _ _).drew) (by intro u hu; rw [List.mem_singleton.1 hu]; rfl) (by simp only [maxLen]; omega) (by omega) (by simp; omega) ?_; intro v5 w5 o5 g5 a5; have hb5 := Blk.grown (by first | exact HGB.out.alloc _ | exact (HGB.out.alloc _).drew) g5 (fun e => HRT.out e.symm); have s2 : w5.cell? ⟨g, 2, none⟩ = some r.tv := hb5.cell 2; have sf2 := hb5.frozen 2; obtain ⟨A5, c5, hv5, -⟩ := own_sl o5; subst hv5; clear hb5)
      all_goals
        obtain ⟨hgB, hcB⟩ := HGA.out.terms_ (ts := [(y.x.hear m).1.term]) (wq := (wA.alloc (.cells #[.int .u64 ((y.x.hear m).1.term : Int)] 22)).drew) ((Below.refl _ wA).alloc (Nat.le_refl _) _).drew (by rw [List.map_append]; show World.ownsRow _ _ _ _ _ (G.terms ++ [(y.x.hear m).1.term]).length _; rw [List.length_append]; exact o5) (by rw [htv]; exact g5) (by rw [htv]; rcases a5 with a5 | a5; exact .inl a5; exact .inr fun k hk => by rw [a5] at hk; injection hk with hk; simp at hk; omega)
        obtain ⟨Al, cl, hlv, -⟩ := own_sl hgB.leads
        obtain ⟨k0, hk0, hw0, hw1, hw2⟩ := info_parts int_info
        generalize hwB : w5.setCell ⟨g, 2, none⟩ (.slice A5 (G.terms.length + 1) c5) = wB at hgB hcB ⊢
        have l3 : wB.cell? ⟨g, 3, none⟩ = some r.lv := hgB.blk.cell 3
        rw [hlv] at l3
        have hgb : g < wB.heap.size := hgB.blk.lt
        have HLS : Hid (wB.ownsRow H 3 1 (.slice Al G.leads.length cl) G.leads.length (G.leads.map iv)) := by have := hgB.leads; rw [hlv] at this; exact this
        have hrl : r.lv.ownBlock ≠ some g := row_ne hgB.leads hgB.blk (by decide)
        rw [hlv] at hrl
        have HRL := Lib.hid hrl
        have HGC := Lib.hid hgB
        have HGD := Lib.hid hgB.blk
        have HCB := Lib.hid hcB
        have hHb : H ≤ wB.heap.size := Nat.le_trans hgB.hg (Nat.le_of_lt hgb)
        clear hwB hgB hcB hrl o5 g5 a5 s2 sf2 t2 t6
        go_wp2_with (at_builtin; refine wpList_app _ rfl (.tmp 123) (.tmp 125) 51 rfl H 3 k0 _ 1 8 Try.underlying51 hk0 hw0 hw1 hw2 rfl (by omega) (.slice Al G.leads.length cl) G.leads.length (G.leads.map iv) rfl (by exact own_alloc' HLS.out _) wB.heap.size (wB.heap.size + 1) (some ⟨wB.heap.size, 0, none⟩) 1 1 [.int .i64 (i : Int)] rfl (by exact sl_one _ _ _) (by intro u hu; rw [List.mem_singleton.1 hu]; rfl) (by simp only [maxLen]; omega) (by omega) (by simp; omega) ?_; intro v6 w6 o6 g6 a6; have hb6 := Blk.grown (HGD.out.alloc _) g6 (fun e => HRL.out e.symm); have s3 : w6.cell? ⟨g, 3, none⟩ = some r.lv := hb6.cell 3; have sf3 := hb6.frozen 3; obtain ⟨A6, c6, hv6, -⟩ := own_sl o6; subst hv6; clear hb6)
        go_end0
        obtain ⟨hgC, hcC⟩ := HGC.out.leads_ (ls := [(i : Int)]) (wq := wB.alloc (.cells #[.int .i64 (i : Int)] 3)) ((Below.refl _ wB).alloc (Nat.le_refl _) _) (by rw [List.map_append]; show World.ownsRow _ _ _ _ _ (G.leads ++ [(i : Int)]).length _; rw [List.length_append]; exact o6) (by rw [hlv]; exact g6) (by rw [hlv]; rcases a6 with a6 | a6; exact .inl a6; exact .inr fun k hk => by rw [a6] at hk; injection hk with hk; rw [← hk]; simp)
        have hd : G.done i (y.x.hear m) = { G with nodes := G.nodes.set i (y.x.hear m).1, msgs := G.msgs ++ (y.x.hear m).2, terms := G.terms ++ [(y.x.hear m).1.term], leads := G.leads ++ [(i : Int)] } := by unfold GP.done; rw [if_pos HR3.out, if_pos HR3.out]
        rw [hd]
        have hbb := ((HBEL.out.same (HCA.out.mono fun k hk => hk.elim (fun e => .inl (.inl e)) fun e => .inl (.inr (.inr (.inl e))))).same (HCB.out.mono fun k hk => hk.elim (fun e => .inl (.inl e)) fun e => .inl (.inr (.inr (.inr (.inl e)))))).same (hcC.mono fun k hk => hk.elim (fun e => .inl (.inl e)) fun e => .inl (.inr (.inr (.inr (.inr e)))))
        first | exact ⟨rfl, _, _, hgC, hbb⟩ | exact ⟨rfl, ⟨_, _, hgC⟩, hbb⟩
    · have HR3 := Lib.hid hr3
      have er : ((y.x.hear m).1.role == 3) = false := by simp [hr3]
      clear hr3
      go_wp2_with (at_builtin; refine wpList_app _ rfl (.tmp 96) (.tmp 97) 57 rfl H 81 i0 _ 10 112 Try.underlying57 hi0 hz0 hz1 hz2 rfl (by omega) (.slice Am G.msgs.length cm) G.msgs.length (mcells G.msgs) rfl HMS.out _ _ Ao (y.x.hear m).2.length co (mcells (y.x.hear m).2) rfl HSO.out (mcs_one _) (by simp only [maxLen]; omega) (by omega) hHs ?_; intro v4 w4 o4 g4 a4; have hq4 := HB2.out.grown g4 (fun e => HRG.out e.symm); have hn4 := HNB.out.grown g4 (fun e => HRY.out e.symm); have u1 : w4.cell? ⟨g, 1, none⟩ = some r.mv := hq4.cell 1; have uf1 := hq4.frozen 1; have u2 : w4.cell? ⟨g, 2, none⟩ = some r.tv := hq4.cell 2; have u3 : w4.cell? ⟨g, 3, none⟩ = some r.lv := hq4.cell 3; have uf2 := hq4.frozen 2; have uf3 := hq4.frozen 3; have b2 : w4.cell? ⟨y.b, 2, none⟩ = some (.int .i64 (y.x.hear m).1.role) := hn4.cell 2; have b6 : w4.cell? ⟨y.b, 6, none⟩ = some (.int .u64 ((y.x.hear m).1.term : Int)) := hn4.cell 6; have HQ4 := Lib.hid hq4; have HNN4 := Lib.hid hn4; obtain ⟨A4, c4, hv4, -⟩ := own_sl o4; subst hv4; clear hq4 hn4)
      obtain ⟨hgA, hcA⟩ := HG2.out.msgs_ (ms := (y.x.hear m).2) (Below.refl _ _) (by rw [mcells_append]; show World.ownsRow _ _ _ _ _ (G.msgs ++ (y.x.hear m).2).length _; rw [List.length_append]; exact o4) (by rw [hmv]; exact g4) (by rw [hmv]; rcases a4 with a4 | a4; exact .inl a4; exact .inr fun k hk => by rw [a4] at hk; injection hk with hk; omega)
      go_end0
      have hd : G.done i (y.x.hear m) = { G with nodes := G.nodes.set i (y.x.hear m).1, msgs := G.msgs ++ (y.x.hear m).2 } := by unfold GP.done; rw [if_neg HR3.out, if_neg HR3.out]
      rw [hd]
      first | exact ⟨rfl, _, _, hgA, HBEL.out.same (hcA.mono fun k hk => hk.elim (fun e => .inl (.inl e)) fun e => .inl (.inr (.inr (.inl e))))⟩ | exact ⟨rfl, ⟨_, _, hgA⟩, HBEL.out.same (hcA.mono fun k hk => hk.elim (fun e => .inl (.inl e)) fun e => .inl (.inr (.inr (.inl e))))⟩
end
end Go.Proofs.Ytbgdepaffgeinaa
