/- OnAnswer of a message of kind 2. -/
import Derived.Test.YtbgdepaffgeinaaElAskP
import Derived.Test.YtbgdepaffgeinaaElOn
import Derived.Test.YtbgdepaffgeinaaElAns
namespace Go.Proofs.Ytbgdepaffgeinaa
open Go.RowKit
theorem Sub.trans22 {O O' O'' : Nat → Prop} {w w1 : World} (h : Sub O w O') (k : Sub O' w1 O'') (hs : w.heap.size ≤ w1.heap.size) : Sub O w O'' := h.trans k hs
section
variable {H : Nat} {O : Nat → Prop} {b : Nat} {p : NP} {x : ND}
/-- one more yes -/
theorem NodeP.more2 {w3 wq w4 : World} {v4 : Value} {f : Int} {n : Nat} (h : NodeP H w3 O b p x) (hq : Aft w3 wq) (hown : w4.ownsRow 0 3 1 v4 (n + 1) (x.yes.map iv ++ [.int .i64 f])) (hn : x.yes.length = n) (hg : wq.grownBy w4 p.yv.ownBlock) (hat : v4.ownBlock = p.yv.ownBlock ∨ v4.ownBlock = some wq.heap.size) :
    ∃ O', NodeP H (w4.setCell ⟨b, 5, none⟩ v4) O' b { p with yv := v4 } { x with yes := x.yes ++ [f] } ∧ Sub O w3 O' ∧ Chg O w3 (w4.setCell ⟨b, 5, none⟩ v4) := by
  have hyb : p.yv.ownBlock ≠ some b := row_ne h.yes h.blk (by decide)
  have hb4 := (h.blk.after hq).grown hg fun e => hyb e.symm
  have hvb : v4.ownBlock ≠ some b := row_ne hown hb4 (by decide)
  have hqs : w3.heap.size ≤ wq.heap.size := hq.size
  have hc : Chg (p.W b) w3 (w4.setCell ⟨b, 5, none⟩ v4) := ((Chg.below hq).same (Chg.grown hg fun k e => .inl (.inr (.inl e)))).put (.inl rfl) 5 v4
  have hnew : ∀ k, v4.ownBlock = some k → O k ∨ w3.heap.size ≤ k := fun k hk => hat.elim (fun e => .inl (h.yesO k (e ▸ hk))) fun e => .inr (by rw [e] at hk; injection hk with hk; omega)
  refine ⟨fun k => O k ∨ v4.ownBlock = some k, h.upd _ (fun k hk => .inl hk) (fun k hk => hk.elim (h.low k) fun e => (hnew k e).elim (h.low k) fun e' => by have := h.size; omega) (fun k hk => hk.elim (fun h' => by have := h.top k h'; have := hc.size; omega) fun e => by have := (hown.lt k e).2; simpa using this) hc ?_ rfl rfl ?_ ?_ rfl ?_ rfl ?_ (.inl ⟨rfl, rfl, rfl, rfl⟩), ?_, hc.mono h.W_sub⟩
  · have := hb4.set_ 5 v4
    simpa [NP.cells] using this
  · show World.ownsRow _ _ _ _ _ (x.yes ++ [f]).length ((x.yes ++ [f]).map iv)
    rw [List.length_append, hn, List.map_append]
    exact own_far hown hvb _ _
  · rcases hat with e | e
    · exact .inl e
    · exact .inr fun k hk => ⟨by have hk' : v4.ownBlock = some k := hk; rw [e] at hk'; injection hk' with hk'; omega, .inr hk⟩
  · exact own_far (own_after_grown (own_after h.next hq) hg fun k hk e => row_ne_row h.yes h.next (by decide) k e hk) (row_ne h.next h.blk (by decide)) _ _
  · exact own_far (own_after_grown (own_after h.mt hq) hg fun k hk e => row_ne_row h.yes h.mt (by decide) k e hk) (row_ne h.mt h.blk (by decide)) _ _
  · exact fun k hk => hk.elim .inl (hnew k)
set_option maxRecDepth 100000 in
set_option maxHeartbeats 6400000 in
theorem onAns_real (f d : Int) (t i q : Nat) (c : Value) (ok : Bool) (D E : Value) (w : World) (h : NodeP H w O b p x) (hok : x.Ok) (hyl : x.yes.length ≤ 10000) (ht : t < 4611686018427387904) :
    Calls Try.prog 48 #[.pointer (some ⟨b, 0, none⟩), mval 2 f d t i q c ok D E] w fun e w' => ∃ v, e = .returned v ∧ Sent H w w' O b v (x.onAnswer 2 f t ok) := by
  obtain ⟨cA, cc, yv, eA, ec, er, nv, mv⟩ := p
  have hB := h.blk
  have x6 : w.cell? ⟨b, 6, none⟩ = some (.int .u64 (x.term : Int)) := hB.cell 6
  have hbl := hB.lt
  have hne : b ≠ w.heap.size := by omega
  have HOK := Lib.hid hok
  have HH := Lib.hid h
  have HB0 : Hid (Aft w (w.alloc (.cells #[.int .i64 2, .int .i64 f, .int .i64 d, .int .u64 (t : Int), .int .u64 (i : Int), .int .u64 (q : Int), c, .bool ok, D, E] 81))) := (Aft.refl w).alloc _
  have HM0 := Lib.hid (Blk.new w 81 #[.int .i64 2, .int .i64 f, .int .i64 d, .int .u64 (t : Int), .int .u64 (i : Int), .int .u64 (q : Int), c, .bool ok, D, E])
  have HE : Hid (x.onAnswer 2 f t ok = (if x.term < t ∧ (ok = false ∨ (2 : Int) = 2) then x.follow t (-1) else x).answer 2 f t ok) := by show x.onAnswer 2 f t ok = _; unfold ND.onAnswer; rw [if_pos (by decide)]
  clear hB hok h
  unfold mval
  by_cases hlt : x.term < t
  · have hlt' : (x.term : Int) < (t : Int) := by omega
    have HLT := Lib.hid hlt
    cases ok with
    | false =>
      go_enter Try.func48, Try.ntmps48
      go_wp2
      go_quiet (fail)
      have y6 := cell_below HB0.out x6
      go_wp2_with fail
      refine (efollow_any t (-1) _ ((HH.out.after HB0.out).drewN _)).mono ?_
      rintro e w2 ⟨rfl, hN, hgr⟩
      have hM := (HM0.out.drewN nq).grown hgr (fun e => by injection e with e; omega)
      have hC : Chg O w w2 := ((Chg.below HB0.out).drewN nq).same (Chg.grown hgr fun k e => by cases e; exact .inl HH.out.bO)
      have m0 := hM.cell 0
      have m1 := hM.cell 1
      have m2 := hM.cell 2
      have m3 := hM.cell 3
      have m4 := hM.cell 4
      have m5 := hM.cell 5
      have m6 := hM.cell 6
      have m7 := hM.cell 7
      have m8 := hM.cell 8
      have m9 := hM.cell 9
      simp only [List.getElem?_toArray, List.getElem?_cons_zero, List.getElem?_cons_succ] at m0 m1 m2 m3 m4 m5 m6 m7 m8 m9
      obtain ⟨y, hy⟩ : ∃ y, x.follow t (-1) = y := ⟨_, rfl⟩
      have hcf : y.counts 2 f t false = false := by rw [← hy]; simp [ND.counts, ND.follow]
      have hyok : y.Ok := by rw [← hy]; exact ⟨HOK.out.base, HOK.out.es, HOK.out.conf, HOK.out.me0, HOK.out.me16, by show (if x.term < t then t else x.term) < 4611686018427387904; have := HOK.out.term; split <;> omega⟩
      rw [hy] at hN
      have HY := Lib.hid hy
      have HN := Lib.hid hN
      have HC := Lib.hid hC
      have HK := Lib.hid hcf
      have HYO := Lib.hid hyok
      clear hM hN hC hy hcf hyok hgr
      go_wp2_with fail
      refine (counts_real f d t i q c false D E w2 HN.out HYO.out HK.out).mono ?_
      rintro e w3 ⟨rfl, hb3⟩
      go_wp2
      go_ret
      have he : x.onAnswer 2 f t false = (y, []) := by rw [HE.out]; rw [if_pos ⟨HLT.out, by simp⟩, HY.out]; unfold ND.answer; rw [HK.out]; rfl
      rw [he]
      exact ⟨_, rfl, Sent.none_ (HN.out.after hb3) (Sub.refl _ _) (HC.out.same (Chg.below hb3))⟩
    | true =>
      go_enter Try.func48, Try.ntmps48
      go_wp2
      go_quiet (fail)
      have y6 := cell_below HB0.out x6
      go_wp2_with fail
      refine (efollow_any t (-1) _ ((HH.out.after HB0.out).drewN _)).mono ?_
      rintro e w2 ⟨rfl, hN, hgr⟩
      have hM := (HM0.out.drewN nq).grown hgr (fun e => by injection e with e; omega)
      have hC : Chg O w w2 := ((Chg.below HB0.out).drewN nq).same (Chg.grown hgr fun k e => by cases e; exact .inl HH.out.bO)
      have m0 := hM.cell 0
      have m1 := hM.cell 1
      have m2 := hM.cell 2
      have m3 := hM.cell 3
      have m4 := hM.cell 4
      have m5 := hM.cell 5
      have m6 := hM.cell 6
      have m7 := hM.cell 7
      have m8 := hM.cell 8
      have m9 := hM.cell 9
      simp only [List.getElem?_toArray, List.getElem?_cons_zero, List.getElem?_cons_succ] at m0 m1 m2 m3 m4 m5 m6 m7 m8 m9
      obtain ⟨y, hy⟩ : ∃ y, x.follow t (-1) = y := ⟨_, rfl⟩
      have hcf : y.counts 2 f t true = false := by rw [← hy]; simp [ND.counts, ND.follow]
      have hyok : y.Ok := by rw [← hy]; exact ⟨HOK.out.base, HOK.out.es, HOK.out.conf, HOK.out.me0, HOK.out.me16, by show (if x.term < t then t else x.term) < 4611686018427387904; have := HOK.out.term; split <;> omega⟩
      rw [hy] at hN
      have HY := Lib.hid hy
      have HN := Lib.hid hN
      have HC := Lib.hid hC
      have HK := Lib.hid hcf
      have HYO := Lib.hid hyok
      clear hM hN hC hy hcf hyok hgr
      go_wp2_with fail
      refine (counts_real f d t i q c true D E w2 HN.out HYO.out HK.out).mono ?_
      rintro e w3 ⟨rfl, hb3⟩
      go_wp2
      go_ret
      have he : x.onAnswer 2 f t true = (y, []) := by rw [HE.out]; rw [if_pos ⟨HLT.out, by simp⟩, HY.out]; unfold ND.answer; rw [HK.out]; rfl
      rw [he]
      exact ⟨_, rfl, Sent.none_ (HN.out.after hb3) (Sub.refl _ _) (HC.out.same (Chg.below hb3))⟩
  · have hlt' : ¬ (x.term : Int) < (t : Int) := by omega
    have HLT := Lib.hid hlt
    cases ok with
    | false =>
      go_enter Try.func48, Try.ntmps48
      go_wp2
      go_quiet (fail)
      have HNIF : Hid (¬ (x.term < t ∧ (false = false ∨ (2 : Int) = 2))) := fun h => HLT.out h.1
      have hA1 : Aft w ((w.alloc (.cells #[.int .i64 2, .int .i64 f, .int .i64 d, .int .u64 (t : Int), .int .u64 (i : Int), .int .u64 (q : Int), c, .bool false, D, E] 81)).drewN nq) := below_drewN HB0.out nq
      have hN := HH.out.after hA1
      have hM := HM0.out.drewN nq
      generalize (w.alloc (.cells #[.int .i64 2, .int .i64 f, .int .i64 d, .int .u64 (t : Int), .int .u64 (i : Int), .int .u64 (q : Int), c, .bool false, D, E] 81)).drewN nq = wd at hA1 hN hM ⊢
      have m0 := hM.cell 0
      have m1 := hM.cell 1
      have m2 := hM.cell 2
      have m3 := hM.cell 3
      have m4 := hM.cell 4
      have m5 := hM.cell 5
      have m6 := hM.cell 6
      have m7 := hM.cell 7
      have m8 := hM.cell 8
      have m9 := hM.cell 9
      simp only [List.getElem?_toArray, List.getElem?_cons_zero, List.getElem?_cons_succ] at m0 m1 m2 m3 m4 m5 m6 m7 m8 m9
      have HN := Lib.hid hN
      have HA := Lib.hid hA1
      have HM := Lib.hid hM
      clear hN hM hA1
      have HK : Hid (x.counts 2 f t false = false) := by show x.counts 2 f t false = false; simp [ND.counts]
      go_wp2_with fail
      refine (counts_real f d t i q c false D E wd HN.out HOK.out HK.out).mono ?_
      rintro e w3 ⟨rfl, hb3⟩
      go_wp2
      go_ret
      have he : x.onAnswer 2 f t false = (x, []) := by rw [HE.out, if_neg HNIF.out]; unfold ND.answer; rw [HK.out]; rfl
      rw [he]
      exact ⟨_, rfl, Sent.none_ (HN.out.after hb3) (Sub.refl _ _) ((Chg.below HA.out).same (Chg.below hb3))⟩
    | true =>
      go_enter Try.func48, Try.ntmps48
      go_wp2
      go_quiet (fail)
      have HNIF : Hid (¬ (x.term < t ∧ (true = false ∨ (2 : Int) = 2))) := fun h => HLT.out h.1
      have hA1 : Aft w ((w.alloc (.cells #[.int .i64 2, .int .i64 f, .int .i64 d, .int .u64 (t : Int), .int .u64 (i : Int), .int .u64 (q : Int), c, .bool true, D, E] 81)).drewN nq) := below_drewN HB0.out nq
      have hN := HH.out.after hA1
      have hM := HM0.out.drewN nq
      generalize (w.alloc (.cells #[.int .i64 2, .int .i64 f, .int .i64 d, .int .u64 (t : Int), .int .u64 (i : Int), .int .u64 (q : Int), c, .bool true, D, E] 81)).drewN nq = wd at hA1 hN hM ⊢
      have m0 := hM.cell 0
      have m1 := hM.cell 1
      have m2 := hM.cell 2
      have m3 := hM.cell 3
      have m4 := hM.cell 4
      have m5 := hM.cell 5
      have m6 := hM.cell 6
      have m7 := hM.cell 7
      have m8 := hM.cell 8
      have m9 := hM.cell 9
      simp only [List.getElem?_toArray, List.getElem?_cons_zero, List.getElem?_cons_succ] at m0 m1 m2 m3 m4 m5 m6 m7 m8 m9
      have HN := Lib.hid hN
      have HA := Lib.hid hA1
      have HM := Lib.hid hM
      clear hN hM hA1
      cases hcf : x.counts 2 f t true with
      | false =>
        have HK := Lib.hid hcf
        clear hcf
        go_wp2_with fail
        refine (counts_real f d t i q c true D E wd HN.out HOK.out HK.out).mono ?_
        rintro e w3 ⟨rfl, hb3⟩
        go_wp2
        go_ret
        have he : x.onAnswer 2 f t true = (x, []) := by rw [HE.out, if_neg HNIF.out]; unfold ND.answer; rw [HK.out]; rfl
        rw [he]
        exact ⟨_, rfl, Sent.none_ (HN.out.after hb3) (Sub.refl _ _) ((Chg.below HA.out).same (Chg.below hb3))⟩
      | true =>
        have HK := Lib.hid hcf
        have hrole : x.role = 2 := by unfold ND.counts at hcf; simp at hcf; exact hcf.1.1.1
        have HRO := Lib.hid hrole
        clear hcf hrole
        go_wp2_with fail
        refine (counts_real f d t i q c true D E wd HN.out HOK.out HK.out).mono ?_
        rintro e w3 ⟨rfl, hb3⟩
        have hN3 := HN.out.after hb3
        have hM3 := HM.out.after hb3
        have hA3 : Aft w w3 := Aft.call HA.out hb3
        have hB3 := hN3.blk
        obtain ⟨i0, hi0, hz0, hz1, hz2⟩ := info_parts int_info
        obtain ⟨Ay, cy, hvy, -⟩ := own_sl hN3.yes
        simp only at hvy
        subst hvy
        have y5 : w3.cell? ⟨b, 5, none⟩ = some (.slice Ay x.yes.length cy) := hB3.cell 5
        have f5 := hB3.frozen 5
        have k1 : w3.cell? ⟨w.heap.size, 1, none⟩ = some (.int .i64 f) := hM3.cell 1
        have hb3l := hB3.lt
        have hw3l := hM3.lt
        have HN3 := Lib.hid hN3
        have HA3 := Lib.hid hA3
        have HOW := Lib.hid hN3.yes
        have hnv : (Value.slice Ay x.yes.length cy).ownBlock ≠ some b := row_ne hN3.yes hB3 (by decide)
        have HNV := Lib.hid hnv
        have HBB := Lib.hid hB3
        obtain ⟨n, hn⟩ : ∃ n, x.yes.length = n := ⟨_, rfl⟩
        have HNN := Lib.hid hn
        simp only [hn] at y5 HOW HNV hyl
        clear hN3 hM3 hA3 hB3 hnv m0 m1 m2 m3 m4 m5 m6 m7 m8 m9 hb3 hn
        go_wp2
        go_cut [0] (fun v wc => v = .pointer (some ⟨b, 0, none⟩) ∧ ∃ p' O', NodeP H wc O' b p' { x with yes := x.yes ++ [f] } ∧ Sub O w3 O' ∧ Chg O w3 wc)
        case first =>
          go_region_law (refine step_app _ rfl (.tmp 42) (.tmp 45) 51 rfl 0 3 i0 _ 1 8 Try.underlying51 hi0 hz0 hz1 hz2 rfl (by omega) (.slice Ay n cy) n (x.yes.map iv) (by simp [Act.eval, Act.put]) (by first | exact own_alloc' HOW.out _ | exact own_drewN (own_alloc' HOW.out _) 1) w3.heap.size (w3.heap.size + 1) (some ⟨w3.heap.size, 0, none⟩) 1 1 [.int .i64 f] (by simp [Act.eval, Act.put]) (by first | exact sl_one _ _ _ | exact (sl_one _ _ _).drew) (by intro u hu; rw [List.mem_singleton.1 hu]; rfl) (by simp only [maxLen]; omega) (by omega) (Nat.zero_le _) ?_; intro v4 w4 hown4 hg4 hat4; obtain ⟨A4, c4, hv4, -⟩ := own_sl hown4; subst hv4; have hbb4 := Blk.grown (by first | exact HBB.out.alloc _ | exact (HBB.out.alloc _).drew) hg4 (fun e => HNV.out e.symm); have q5' : w4.cell? ⟨b, 5, none⟩ = some (.slice Ay x.yes.length cy) := hbb4.cell 5; rw [HNN.out] at q5'; have f5' := hbb4.frozen 5)
          all_goals
            go_wp2
            go_meet
            first
              | (obtain ⟨O', r1, r2, r3⟩ := HN3.out.more2 (wq := (w3.alloc (.cells #[.int .i64 f] 3)).drew) ((Aft.refl w3).alloc _).drew hown4 HNN.out (by first | (rw [HNN.out]; exact hg4) | (simp only [HNN.out]; exact hg4)) (by simp only [HNN.out]; first | exact hat4 | simpa using hat4); exact ⟨rfl, _, O', r1, r2, r3⟩)
        case rest =>
          obtain ⟨rfl, p', O', hN5, hS5, hC5⟩ := hcut
          obtain ⟨Az, cz, hvz, hsz⟩ := own_sl hN5.yes
          obtain ⟨Ac, cc', hvc, hsc⟩ := own_sl hN5.conf
          unfold NP.cv at hvc
          injection hvc with e1 e2 e3
          clear e2
          subst e1 e3
          have hB5 := hN5.blk
          have z4 : wc.cell? ⟨b, 4, none⟩ = some (.slice p'.cA x.conf.length p'.cc) := hB5.cell 4
          have z5 : wc.cell? ⟨b, 5, none⟩ = some p'.yv := hB5.cell 5
          rw [hvz] at z5
          obtain ⟨m, hm⟩ : ∃ m, (x.yes ++ [f]).length = m := ⟨_, rfl⟩
          have z5' : wc.cell? ⟨b, 5, none⟩ = some (.slice Az m cz) := by rw [← hm]; exact z5
          have hsz' : Sl wc 0 wc.heap.size 1 Az m cz ((x.yes ++ [f]).map iv) := by rw [← hm]; exact hsz
          have HN5 := Lib.hid hN5
          have HS5 := Lib.hid hS5
          have HC5 := Lib.hid hC5
          have HSZ := Lib.hid hsz'
          have HSC := Lib.hid hsc
          have hcl := HOK.out.conf
          have hA3C : Chg O w w3 := Chg.below HA3.out
          have HA3C := Lib.hid hA3C
          clear hN5 hS5 hC5 hsz hsz' hm z5 hsc hvz hB5 y5 f5 k1 hA3C
          go_wp2
          cases hag : agrees x.conf (x.yes ++ [f]) with
          | false =>
            have HAG := Lib.hid hag
            clear hag
            go_quiet ((go_at_call 62; exact Calls.quiet_of (agrees_quiet (HSC.out.drewN _) (HSZ.out.drewN _) hcl HAG.out)))
            go_wp2
            go_ret
            have he : x.onAnswer 2 f t true = ({ x with yes := x.yes ++ [f] }, []) := by rw [HE.out, if_neg HNIF.out]; unfold ND.answer; rw [HK.out]; simp only [if_true]; rw [HAG.out]; rfl
            rw [he]
            exact ⟨_, rfl, Sent.none_ (HN5.out.drewN _) ((Sub.refl O w).trans22 HS5.out HA3.out.size) ((HA3C.out.same HC5.out).drewN _)⟩
          | true =>
            have HAG := Lib.hid hag
            clear hag
            go_quiet ((go_at_call 62; exact Calls.quiet_of (agrees_quiet (HSC.out.drewN _) (HSZ.out.drewN _) hcl HAG.out)))
            go_wp2_with fail
            refine (chosen_real _ (HN5.out.drewN _) HOK.out.base HOK.out.es HOK.out.me0 HOK.out.me16 HRO.out).mono ?_
            rintro e w6 ⟨v, rfl, hsent⟩
            have hsent2 := Sent.behind ((HA3C.out.same HC5.out).drewN _) ((Sub.refl O w).trans22 HS5.out HA3.out.size) hsent
            go_wp2
            go_ret
            have he : x.onAnswer 2 f t true = (ND.toLead { x with yes := x.yes ++ [f] }, []) := by rw [HE.out, if_neg HNIF.out]; unfold ND.answer; rw [HK.out]; simp only [if_true]; rw [HAG.out, if_pos rfl]; unfold ND.chosen; rw [if_neg (by show ¬ x.role = 1; rw [HRO.out]; decide)]
            rw [he]
            exact ⟨_, rfl, hsent2⟩
end
end Go.Proofs.Ytbgdepaffgeinaa
