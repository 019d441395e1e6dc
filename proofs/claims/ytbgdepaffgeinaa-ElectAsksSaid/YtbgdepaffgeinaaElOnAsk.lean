/- OnAsk. -/
import Derived.Test.YtbgdepaffgeinaaElOn
namespace Go.Proofs.Ytbgdepaffgeinaa
open Go.RowKit
/-- what is sent is one message in a row of its own -/
theorem sent_one {H : Nat} {O : Nat → Prop} {b g : Nat} {p : NP} {y : ND} {w W : World} {m : Ms} (hgg : W.heap.size = g) (hN : NodeP H W O b p y) (hg : Chg O w W) (hO : ∀ k, O k → k < W.heap.size) :
    Sent H w (W.alloc (.cells m.cells.toArray 81)) O b (.slice (some ⟨g, 0, none⟩) 1 1) (y, [m]) := by
  subst hgg
  have hr := own_whole W w.heap.size 10 1 81 m.cells.toArray hg.size (by simp [maxLen]) (by simp [Ms.cells])
  refine ⟨p, O, hN.alloc _, Sub.refl _ _, hg.same (Chg.below ((Below.refl _ W).alloc (Nat.le_refl _) _)), ?_, fun k hk h => ?_⟩
  · rw [mcells_one]
    exact hr
  · have e : W.heap.size = k := by simpa [Value.ownBlock] using hk
    have := hO k h
    omega
theorem NodeP.far1 {H : Nat} {O : Nat → Prop} {b : Nat} {p : NP} {x : ND} {w : World} {g : Nat} (h : NodeP H w O b p x) (hO : ¬ O g) (hH : H ≤ g) (i : Nat) (u : Value) : NodeP H (w.setCell ⟨g, i, none⟩ u) O b p x := by
  have hg := only_setCell (World.grownBy.refl w (some g)) i u
  exact h.keep (fun k hk => hg.block k (h.top k hk) fun e => hO (by injection e with e; subst e; exact hk)) (fun k hk => hg.block k (Nat.lt_of_lt_of_le hk h.size) fun e => by injection e with e; omega) hg.size
theorem Chg.new {O : Nat → Prop} {w w1 : World} (h : Chg O w w1) {g : Nat} (hg : w.heap.size ≤ g) (i : Nat) (u : Value) : Chg O w (w1.setCell ⟨g, i, none⟩ u) :=
  ⟨h.os, h.tape, h.output, by simpa using h.size, fun k hk hn => (Below.heap_setCell w1 ⟨g, i, none⟩ u k (fun e => by have e' : k = g := e; omega)).trans (h.block k hk hn)⟩
section
variable {H : Nat} {O : Nat → Prop} {b : Nat} {p : NP} {x : ND}
set_option maxRecDepth 100000 in
set_option maxHeartbeats 6400000 in
theorem onAsk_vote (f d : Int) (t i q : Nat) (c : Value) (ok : Bool) (D E : Value) (w : World) (h : NodeP H w O b p x) (hok : x.Ok) :
    Calls Try.prog 47 #[.pointer (some ⟨b, 0, none⟩), mval 1 f d t i q c ok D E] w fun e w' => ∃ v, e = .returned v ∧ Sent H w w' O b v (x.onAsk 1 f t i q) := by
  have hB := h.blk
  have x0 : w.cell? ⟨b, 0, none⟩ = some (.int .i64 x.me) := hB.cell 0
  have hbl := hB.lt
  have hne : b ≠ w.heap.size := by omega
  have HOK := Lib.hid hok
  have HH := Lib.hid h
  clear hB hok h
  unfold mval
  go_enter Try.func47, Try.ntmps47
  go_wp2
  have B3 := Blk.new w 81 #[.int .i64 1, .int .i64 f, .int .i64 d, .int .u64 (t : Int), .int .u64 (i : Int), .int .u64 (q : Int), c, .bool ok, D, E]
  have y0 := cell_below ((Below.refl w.heap.size w).alloc (Nat.le_refl _) (.cells #[.int .i64 1, .int .i64 f, .int .i64 d, .int .u64 (t : Int), .int .u64 (i : Int), .int .u64 (q : Int), c, .bool ok, D, E] 81)) x0
  have A1 : Aft w _ := (Aft.refl w).alloc (.cells #[.int .i64 1, .int .i64 f, .int .i64 d, .int .u64 (t : Int), .int .u64 (i : Int), .int .u64 (q : Int), c, .bool ok, D, E] 81)
  generalize hwb : w.alloc (.cells #[.int .i64 1, .int .i64 f, .int .i64 d, .int .u64 (t : Int), .int .u64 (i : Int), .int .u64 (q : Int), c, .bool ok, D, E] 81) = wb at B3 y0 A1 ⊢
  have hsz : wb.heap.size = w.heap.size + 1 := by rw [← hwb]; simp
  have m1 : wb.cell? ⟨w.heap.size, 1, none⟩ = some (.int .i64 f) := B3.cell 1
  have hbw : b < wb.heap.size := by omega
  have hn1 : b ≠ wb.heap.size := by omega
  have hn2 : w.heap.size ≠ wb.heap.size := by omega
  have hlw : w.heap.size < wb.heap.size := by omega
  have HB3 := Lib.hid B3
  have HA1 := Lib.hid A1
  clear hwb B3 hsz A1
  go_cut [5] (fun v wc => v = .pointer (some ⟨wb.heap.size, 0, none⟩) ∧ Blk wc wb.heap.size 81 #[.int .i64 0, .int .i64 x.me, .int .i64 f, .int .u64 0, .int .u64 0, .int .u64 0, .int .u64 0, .bool false, .slice none 0 0, .slice none 0 0] ∧ Aft wb wc)
  case first =>
    go_region_held3 (fun W' => W'.cell? ⟨b, 0, none⟩ = some (.int .i64 x.me) ∧ W'.cell? ⟨w.heap.size, 1, none⟩ = some (.int .i64 f)) (first | exact ⟨y0, m1⟩ | go_keep) (fail)
    all_goals
      go_wp2
      go_meet
      exact ⟨rfl, (Blk.new wb _ _).drew, ((Aft.refl wb).alloc _).drew⟩
  case rest =>
    obtain ⟨rfl, M5, hA⟩ := hcut
    have hAw : Aft w wc := Aft.call HA1.out hA
    have M3 := HB3.out.after hA
    have hN := HH.out.after hAw
    have hHO : Hid (∀ k, O k → k < w.heap.size) := HH.out.top
    have hHH := HH.out.size
    have hgw := grown_of_below hAw (some b)
    have hC : Chg O w wc := Chg.below hAw
    have hterm := HOK.out.term
    obtain ⟨g3, hg3⟩ : ∃ g3, w.heap.size = g3 := ⟨_, rfl⟩
    obtain ⟨g5, hg5⟩ : ∃ g5, wb.heap.size = g5 := ⟨_, rfl⟩
    have hwg5 : Hid (w.heap.size ≤ g5) := by show w.heap.size ≤ g5; omega
    rw [hg3] at M3 hHO hHH hlw hn2 hne
    rw [hg5] at M5 hlw hn1 hn2 hbw
    simp only [hg3, hg5]
    have HC := Lib.hid hC
    have HHO := Lib.hid hHO
    have hg5O : ¬ O g5 := fun h => by have := hHO.out _ h; omega
    have hg5H : H ≤ g5 := by omega
    have h35 : g3 ≠ g5 := by omega
    have h53 : g5 ≠ g3 := by omega
    have hb3' : b ≠ g3 := by omega
    have hb5' : b ≠ g5 := by omega
    have hlt3 : g3 < wc.heap.size := M3.lt
    have hlt5 : g5 < wc.heap.size := M5.lt
    clear HH HB3 HA1 hA hAw y0 m1 x0 hgw hC hg3 hg5
    have c3 : wc.cell? ⟨g3, 3, none⟩ = some (.int .u64 (t : Int)) := M3.cell 3
    have c0 : wc.cell? ⟨g3, 0, none⟩ = some (.int .i64 1) := M3.cell 0
    have c6 : wc.cell? ⟨b, 6, none⟩ = some (.int .u64 (x.term : Int)) := hN.blk.cell 6
    have e0 : wc.cell? ⟨g5, 0, none⟩ = some (.int .i64 0) := M5.cell 0
    have ef0 := M5.frozen 0
    by_cases hft : x.term < t
    · have hft' : (x.term : Int) < (t : Int) := by omega
      have HMX := Lib.hid M3
      have HM5X := Lib.hid M5
      have HNX := Lib.hid hN
      clear M3 M5 hN
      go_wp2
      go_quiet (fail)
      go_wp2_with fail
      refine (efollow_any t (-1) _ (HNX.out.drewN _)).mono ?_
      rintro e w2 ⟨rfl, hN, hgr⟩
      have M3 := (HMX.out.drewN nq).grown hgr (fun e => by injection e with e; omega)
      have M5 := (HM5X.out.drewN nq).grown hgr (fun e => by injection e with e; omega)
      have hC2 := (HC.out.drewN nq).same (Chg.grown (O := O) hgr fun k e => by cases e; exact .inl HNX.out.bO)
      have c0 : w2.cell? ⟨g3, 0, none⟩ = some (.int .i64 1) := M3.cell 0
      have e0 : w2.cell? ⟨g5, 0, none⟩ = some (.int .i64 0) := M5.cell 0
      have ef0 := M5.frozen 0
      have HMX := Lib.hid M3
      have HM5X := Lib.hid M5
      have HNX := Lib.hid hN
      have HC2 := Lib.hid hC2
      clear M3 M5 hN hC2 hgr
      go_wp2
      have M5' : Blk (w2.setCell ⟨g5, 0, none⟩ (.int .i64 2)) g5 81 #[.int .i64 2, .int .i64 x.me, .int .i64 f, .int .u64 0, .int .u64 0, .int .u64 0, .int .u64 0, .bool false, .slice none 0 0, .slice none 0 0] := by simpa using HM5X.out.set_ 0 (.int .i64 2)
      have M3' := HMX.out.far (p := ⟨g5, 0, none⟩) h35 (.int .i64 2)
      have hN' := HNX.out.far1 hg5O hg5H 0 (.int .i64 2)
      have hC' := HC2.out.new hwg5.out 0 (.int .i64 2)
      generalize w2.setCell ⟨g5, 0, none⟩ (.int .i64 2) = wX at M5' M3' hN' hC' ⊢
      obtain ⟨y, hy⟩ : ∃ y, x.follow t (-1) = y := ⟨_, rfl⟩
      have hyme : x.me = y.me := by rw [← hy]; rfl
      rw [hyme] at M5'
      have HYK : Hid (y.base < 1152921504606846976 ∧ y.es.length ≤ 1000) := by rw [← hy]; exact ⟨HOK.out.base, by have := HOK.out.es; show x.es.length ≤ 1000; omega⟩
      have HY : Hid (x.onAsk 1 f t i q = y.onVote f t (y.newer q i)) := by show x.onAsk 1 f t i q = y.onVote f t (y.newer q i); unfold ND.onAsk; rw [if_pos rfl, if_pos hft, hy, ← hy]; rfl
      rw [hy] at hN'
      obtain ⟨p', hp'⟩ : ∃ p' : NP, { p with yv := .slice none 0 0 } = p' := ⟨_, rfl⟩
      rw [hp'] at hN'
      clear HC HMX HM5X HNX HC2 c3 c0 c6 e0 ef0 hft hft' hy hp' hyme hterm hlt3 hlt5
      have hg5w := hwg5.out
      have HCX := Lib.hid hC'
      have M3 := M3'
      have hlt3X : g3 < wX.heap.size := M3.lt
      have M5 := M5'
      have hN := hN'
      have hB := hN.blk
      have n0 : wX.cell? ⟨b, 0, none⟩ = some (.int .i64 y.me) := hB.cell 0
      have n1 : wX.cell? ⟨b, 1, none⟩ = some (.int .i64 y.vote) := hB.cell 1
      have n6 : wX.cell? ⟨b, 6, none⟩ = some (.int .u64 (y.term : Int)) := hB.cell 6
      have n8 : wX.cell? ⟨b, 8, none⟩ = some (.int .u64 (y.base : Int)) := hB.cell 8
      have n9 : wX.cell? ⟨b, 9, none⟩ = some (.int .u64 (y.bt : Int)) := hB.cell 9
      have n10 : wX.cell? ⟨b, 10, none⟩ = some (.slice p'.eA y.es.length p'.ec) := hB.cell 10
      have nf1 := hB.frozen 1
      have m0 := M3.cell 0
      have m1 := M3.cell 1
      have m2 := M3.cell 2
      have m3 := M3.cell 3
      have m4 := M3.cell 4
      have m5 := M3.cell 5
      have m6 := M3.cell 6
      have m7 := M3.cell 7
      have m8 := M3.cell 8
      have m9 := M3.cell 9
      have o0 := M5.cell 0
      have o1 := M5.cell 1
      have o2 := M5.cell 2
      have o3 := M5.cell 3
      have o4 := M5.cell 4
      have o5 := M5.cell 5
      have o6 := M5.cell 6
      have o7 := M5.cell 7
      have o8 := M5.cell 8
      have o9 := M5.cell 9
      have of3 := M5.frozen 3
      have of7 := M5.frozen 7
      simp only [List.getElem?_toArray, List.getElem?_cons_zero, List.getElem?_cons_succ] at m0 m1 m2 m3 m4 m5 m6 m7 m8 m9 o0 o1 o2 o3 o4 o5 o6 o7 o8 o9
      have HN := Lib.hid hN
      have HB := Lib.hid hB
      have HM3 := Lib.hid M3
      have HM5 := Lib.hid M5
      have HNW : Hid (∀ W, Aft wX W → Calls Try.prog 21 #[.agg #[.int .u64 (y.base : Int), .int .u64 (y.bt : Int), .slice p'.eA y.es.length p'.ec], .int .u64 (q : Int), .int .u64 (i : Int)] W fun e w' => e = .returned (.bool (y.newer q i)) ∧ Below W.heap.size W w') := fun W hW => newer_any y.base y.bt y.es.length p'.ec q i p'.er (p'.er + 1) p'.eA y.es W (hN.es.after (by decide) hW) HYK.out.1 HYK.out.2
      have HWD : Hid (∀ W, Aft wX W → Calls Try.prog 73 #[.pointer (some ⟨b, 0, none⟩), .agg #[.int .i64 1, .int .i64 f, .int .i64 d, .int .u64 (t : Int), .int .u64 (i : Int), .int .u64 (q : Int), c, .bool ok, D, E]] W fun e w' => e = .returned (.bool (y.would f t)) ∧ Below W.heap.size W w') := fun W hW => would_vote f d t i q c ok D E W (hB.after hW) rfl
      have HK : Hid (∀ W', Aft wX W' → W'.cell? ⟨b, 8, none⟩ = some (.int .u64 (y.base : Int)) ∧ W'.cell? ⟨b, 9, none⟩ = some (.int .u64 (y.bt : Int)) ∧ W'.cell? ⟨b, 10, none⟩ = some (.slice p'.eA y.es.length p'.ec) ∧ W'.cell? ⟨g3, 0, none⟩ = some (.int .i64 1) ∧ W'.cell? ⟨g3, 1, none⟩ = some (.int .i64 f) ∧ W'.cell? ⟨g3, 2, none⟩ = some (.int .i64 d) ∧ W'.cell? ⟨g3, 3, none⟩ = some (.int .u64 (t : Int)) ∧ W'.cell? ⟨g3, 4, none⟩ = some (.int .u64 (i : Int)) ∧ W'.cell? ⟨g3, 5, none⟩ = some (.int .u64 (q : Int)) ∧ W'.cell? ⟨g3, 6, none⟩ = some (c) ∧ W'.cell? ⟨g3, 7, none⟩ = some (.bool ok) ∧ W'.cell? ⟨g3, 8, none⟩ = some (D) ∧ W'.cell? ⟨g3, 9, none⟩ = some (E)) := fun W' hW' => ⟨cell_below hW' n8, cell_below hW' n9, cell_below hW' n10, cell_below hW' m0, cell_below hW' m1, cell_below hW' m2, cell_below hW' m3, cell_below hW' m4, cell_below hW' m5, cell_below hW' m6, cell_below hW' m7, cell_below hW' m8, cell_below hW' m9⟩
      have hX1 : Aft wX wX.drew := (Aft.refl wX).drew
      have HZ5 : Hid (∀ W', Aft wX W' → (W'.cell? ⟨g5, 0, none⟩ = some (.int .i64 2) ∧ W'.cell? ⟨g5, 1, none⟩ = some (.int .i64 y.me) ∧ W'.cell? ⟨g5, 2, none⟩ = some (.int .i64 f) ∧ W'.cell? ⟨g5, 3, none⟩ = some (.int .u64 0) ∧ W'.cell? ⟨g5, 4, none⟩ = some (.int .u64 0) ∧ W'.cell? ⟨g5, 5, none⟩ = some (.int .u64 0) ∧ W'.cell? ⟨g5, 6, none⟩ = some (.int .u64 0) ∧ W'.cell? ⟨g5, 7, none⟩ = some (.bool false) ∧ W'.cell? ⟨g5, 8, none⟩ = some (.slice none 0 0) ∧ W'.cell? ⟨g5, 9, none⟩ = some (.slice none 0 0)) ∧ W'.frozen? ⟨g5, 3, none⟩ = false ∧ W'.frozen? ⟨g5, 7, none⟩ = false ∧ W'.cell? ⟨b, 6, none⟩ = some (.int .u64 (y.term : Int)) ∧ W'.cell? ⟨b, 1, none⟩ = some (.int .i64 y.vote) ∧ W'.frozen? ⟨b, 1, none⟩ = false) := fun W' hW' => ⟨⟨cell_below hW' o0, cell_below hW' o1, cell_below hW' o2, cell_below hW' o3, cell_below hW' o4, cell_below hW' o5, cell_below hW' o6, cell_below hW' o7, cell_below hW' o8, cell_below hW' o9⟩, (M5.after hW').frozen 3, (M5.after hW').frozen 7, cell_below hW' n6, cell_below hW' n1, (hB.after hW').frozen 1⟩
      clear hN hB M3 M5 n8 n9 n10 m0 m1 m2 m3 m4 m5 m6 m7 m8 m9 o0 o1 o2 o3 o4 o5 o6 o7 o8 o9 of3 of7 n6 n1 nf1
      cases hnw : y.newer q i with
      | false =>
        have HNWB := Lib.hid hnw
        clear hnw
        go_wp2
        obtain ⟨sn8, sn9, sn10, sm0, sm1, sm2, sm3, sm4, sm5, sm6, sm7, sm8, sm9⟩ := HK.out wX (Aft.refl wX)
        first | go_region_law (go_simp; go_at_call 21; refine (HNW.out _ (by first | exact hX1 | exact Aft.refl _)).mono ?_; rintro e w4 ⟨rfl, hb4⟩; have ha4 : Aft wX w4 := (by first | exact Aft.call hX1 hb4 | exact Aft.call (Aft.refl _) hb4); rw [HNWB.out]; obtain ⟨⟨o0, o1, o2, o3, o4, o5, o6, o7, o8, o9⟩, of3, of7, nn6, nn1, nf1⟩ := HZ5.out _ ha4) | fail
        all_goals
          go_wp2
          go_ret
          have hN6 := (((HN.out.after ha4).far1 hg5O hg5H 7 (.bool false)).far1 hg5O hg5H 3 (.int .u64 (y.term : Int)))
          have hC6 := (((HCX.out.same (Chg.below ha4)).new hg5w 7 (.bool false)).new hg5w 3 (.int .u64 (y.term : Int)))
          have hsent := sent_one (m := ⟨2, y.me, f, y.term, 0, 0, false⟩) (g := w4.heap.size) (by simp) hN6 hC6 (fun k hk => by have := hHO.out k hk; have := ha4.size; simp; omega)
          have he : x.onAsk 1 f t i q = (y, [⟨2, y.me, f, y.term, 0, 0, false⟩]) := by rw [HY.out]; simp [ND.onVote, HNWB.out]
          rw [he]
          exact ⟨_, rfl, hsent⟩
      | true =>
        have HNWB := Lib.hid hnw
        clear hnw
        cases hwd : y.would f t with
        | true =>
          have HWDB := Lib.hid hwd
          have HWDB2 := Lib.hid hwd
          unfold ND.would at HWDB2
          clear hwd
          go_wp2
          go_region_held3 (fun W' => W'.cell? ⟨b, 8, none⟩ = some (.int .u64 (y.base : Int)) ∧ W'.cell? ⟨b, 9, none⟩ = some (.int .u64 (y.bt : Int)) ∧ W'.cell? ⟨b, 10, none⟩ = some (.slice p'.eA y.es.length p'.ec) ∧ W'.cell? ⟨g3, 0, none⟩ = some (.int .i64 1) ∧ W'.cell? ⟨g3, 1, none⟩ = some (.int .i64 f) ∧ W'.cell? ⟨g3, 2, none⟩ = some (.int .i64 d) ∧ W'.cell? ⟨g3, 3, none⟩ = some (.int .u64 (t : Int)) ∧ W'.cell? ⟨g3, 4, none⟩ = some (.int .u64 (i : Int)) ∧ W'.cell? ⟨g3, 5, none⟩ = some (.int .u64 (q : Int)) ∧ W'.cell? ⟨g3, 6, none⟩ = some (c) ∧ W'.cell? ⟨g3, 7, none⟩ = some (.bool ok) ∧ W'.cell? ⟨g3, 8, none⟩ = some (D) ∧ W'.cell? ⟨g3, 9, none⟩ = some (E)) (first | (with_reducible exact HK.out _ hX1) | (with_reducible exact HK.out _ ha4) | (with_reducible exact HK.out _ ha5) | (obtain ⟨sn8, sn9, sn10, sm0, sm1, sm2, sm3, sm4, sm5, sm6, sm7, sm8, sm9⟩ := HK.out _ ha5; exact ⟨cell_far sn8 hb5' _ _, cell_far sn9 hb5' _ _, cell_far sn10 hb5' _ _, cell_far sm0 h35 _ _, cell_far sm1 h35 _ _, cell_far sm2 h35 _ _, cell_far sm3 h35 _ _, cell_far sm4 h35 _ _, cell_far sm5 h35 _ _, cell_far sm6 h35 _ _, cell_far sm7 h35 _ _, cell_far sm8 h35 _ _, cell_far sm9 h35 _ _⟩)) (first | (go_at_call 21; refine (HNW.out _ hX1).mono ?_; rintro e w4 ⟨rfl, hb4⟩; have ha4 : Aft wX w4 := Aft.call hX1 hb4; rw [HNWB.out]) | (go_at_call 73; refine (HWD.out _ ha4).mono ?_; rintro e w5 ⟨rfl, hb5⟩; have ha5 : Aft wX w5 := Aft.call ha4 hb5; rw [HWDB.out]; obtain ⟨⟨o0, o1, o2, o3, o4, o5, o6, o7, o8, o9⟩, of3, of7, nn6, nn1, nf1⟩ := HZ5.out _ ha5))
          all_goals
            go_wp2
            go_ret
            have hN5 := (((HN.out.after ha5).far1 hg5O hg5H 7 (.bool true)).far1 hg5O hg5H 3 (.int .u64 (y.term : Int)))
            have hbb := hN5.blk.set_ 1 (.int .i64 f)
            have hN6 := hN5.put (x' := { y with vote := f }) (only_setCell (World.grownBy.refl _ (some b)) 1 (.int .i64 f)) (by simpa [NP.cells] using hbb) rfl rfl rfl rfl rfl
            have hC6 := ((((HCX.out.same (Chg.below ha5)).new hg5w 7 (.bool true)).new hg5w 3 (.int .u64 (y.term : Int))).put HN.out.bO 1 (.int .i64 f))
            have hsent := sent_one (m := ⟨2, y.me, f, y.term, 0, 0, true⟩) (g := w5.heap.size) (by simp) hN6 hC6 (fun k hk => by have := hHO.out k hk; have := ha5.size; simp; omega)
            have he : x.onAsk 1 f t i q = ({ y with vote := f }, [⟨2, y.me, f, y.term, 0, 0, true⟩]) := by rw [HY.out]; simp [ND.onVote, HNWB.out, HWDB2.out]
            rw [he]
            exact ⟨_, rfl, hsent⟩
        | false =>
          have HWDB := Lib.hid hwd
          have HWDB2 := Lib.hid hwd
          unfold ND.would at HWDB2
          clear hwd
          go_wp2
          go_region_held3 (fun W' => W'.cell? ⟨b, 8, none⟩ = some (.int .u64 (y.base : Int)) ∧ W'.cell? ⟨b, 9, none⟩ = some (.int .u64 (y.bt : Int)) ∧ W'.cell? ⟨b, 10, none⟩ = some (.slice p'.eA y.es.length p'.ec) ∧ W'.cell? ⟨g3, 0, none⟩ = some (.int .i64 1) ∧ W'.cell? ⟨g3, 1, none⟩ = some (.int .i64 f) ∧ W'.cell? ⟨g3, 2, none⟩ = some (.int .i64 d) ∧ W'.cell? ⟨g3, 3, none⟩ = some (.int .u64 (t : Int)) ∧ W'.cell? ⟨g3, 4, none⟩ = some (.int .u64 (i : Int)) ∧ W'.cell? ⟨g3, 5, none⟩ = some (.int .u64 (q : Int)) ∧ W'.cell? ⟨g3, 6, none⟩ = some (c) ∧ W'.cell? ⟨g3, 7, none⟩ = some (.bool ok) ∧ W'.cell? ⟨g3, 8, none⟩ = some (D) ∧ W'.cell? ⟨g3, 9, none⟩ = some (E)) (first | (with_reducible exact HK.out _ hX1) | (with_reducible exact HK.out _ ha4) | (with_reducible exact HK.out _ ha5) | (obtain ⟨sn8, sn9, sn10, sm0, sm1, sm2, sm3, sm4, sm5, sm6, sm7, sm8, sm9⟩ := HK.out _ ha5; exact ⟨cell_far sn8 hb5' _ _, cell_far sn9 hb5' _ _, cell_far sn10 hb5' _ _, cell_far sm0 h35 _ _, cell_far sm1 h35 _ _, cell_far sm2 h35 _ _, cell_far sm3 h35 _ _, cell_far sm4 h35 _ _, cell_far sm5 h35 _ _, cell_far sm6 h35 _ _, cell_far sm7 h35 _ _, cell_far sm8 h35 _ _, cell_far sm9 h35 _ _⟩)) (first | (go_at_call 21; refine (HNW.out _ hX1).mono ?_; rintro e w4 ⟨rfl, hb4⟩; have ha4 : Aft wX w4 := Aft.call hX1 hb4; rw [HNWB.out]) | (go_at_call 73; refine (HWD.out _ ha4).mono ?_; rintro e w5 ⟨rfl, hb5⟩; have ha5 : Aft wX w5 := Aft.call ha4 hb5; rw [HWDB.out]; obtain ⟨⟨o0, o1, o2, o3, o4, o5, o6, o7, o8, o9⟩, of3, of7, nn6, nn1, nf1⟩ := HZ5.out _ ha5))
          all_goals
            go_wp2
            go_ret
            have hN6 := (((HN.out.after ha5).far1 hg5O hg5H 7 (.bool false)).far1 hg5O hg5H 3 (.int .u64 (y.term : Int)))
            have hC6 := (((HCX.out.same (Chg.below ha5)).new hg5w 7 (.bool false)).new hg5w 3 (.int .u64 (y.term : Int)))
            have hsent := sent_one (m := ⟨2, y.me, f, y.term, 0, 0, false⟩) (g := w5.heap.size) (by simp) hN6 hC6 (fun k hk => by have := hHO.out k hk; have := ha5.size; simp; omega)
            have he : x.onAsk 1 f t i q = (y, [⟨2, y.me, f, y.term, 0, 0, false⟩]) := by rw [HY.out]; simp [ND.onVote, HNWB.out, HWDB2.out]
            rw [he]
            exact ⟨_, rfl, hsent⟩
    · have hft' : ¬ (x.term : Int) < (t : Int) := by omega
      have HMX := Lib.hid M3
      have HM5X := Lib.hid M5
      have HNX := Lib.hid hN
      clear M3 M5 hN
      go_wp2
      go_quiet (fail)
      go_wp2
      have M5' : Blk ((wc.drewN nq).setCell ⟨g5, 0, none⟩ (.int .i64 2)) g5 81 #[.int .i64 2, .int .i64 x.me, .int .i64 f, .int .u64 0, .int .u64 0, .int .u64 0, .int .u64 0, .bool false, .slice none 0 0, .slice none 0 0] := by simpa using (HM5X.out.drewN nq).set_ 0 (.int .i64 2)
      have M3' := (HMX.out.drewN nq).far (p := ⟨g5, 0, none⟩) h35 (.int .i64 2)
      have hN' := (HNX.out.drewN nq).far1 hg5O hg5H 0 (.int .i64 2)
      have hC' := (HC.out.drewN nq).new hwg5.out 0 (.int .i64 2)
      generalize (wc.drewN nq).setCell ⟨g5, 0, none⟩ (.int .i64 2) = wX at M5' M3' hN' hC' ⊢
      obtain ⟨y, hy⟩ : ∃ y, x = y := ⟨_, rfl⟩
      have HYK : Hid (y.base < 1152921504606846976 ∧ y.es.length ≤ 1000) := by rw [← hy]; exact ⟨HOK.out.base, by have := HOK.out.es; show x.es.length ≤ 1000; omega⟩
      have HY : Hid (x.onAsk 1 f t i q = y.onVote f t (y.newer q i)) := by show x.onAsk 1 f t i q = y.onVote f t (y.newer q i); unfold ND.onAsk; rw [if_pos rfl, if_neg hft, hy]
      rw [hy] at hN' M5'
      obtain ⟨p', hp'⟩ : ∃ p' : NP, p = p' := ⟨_, rfl⟩
      rw [hp'] at hN'
      clear HC HMX HM5X HNX c3 c0 c6 e0 ef0 hft hft' hp' hterm hlt3 hlt5
      have hg5w := hwg5.out
      have HCX := Lib.hid hC'
      have M3 := M3'
      have hlt3X : g3 < wX.heap.size := M3.lt
      have M5 := M5'
      have hN := hN'
      have hB := hN.blk
      have n0 : wX.cell? ⟨b, 0, none⟩ = some (.int .i64 y.me) := hB.cell 0
      have n1 : wX.cell? ⟨b, 1, none⟩ = some (.int .i64 y.vote) := hB.cell 1
      have n6 : wX.cell? ⟨b, 6, none⟩ = some (.int .u64 (y.term : Int)) := hB.cell 6
      have n8 : wX.cell? ⟨b, 8, none⟩ = some (.int .u64 (y.base : Int)) := hB.cell 8
      have n9 : wX.cell? ⟨b, 9, none⟩ = some (.int .u64 (y.bt : Int)) := hB.cell 9
      have n10 : wX.cell? ⟨b, 10, none⟩ = some (.slice p'.eA y.es.length p'.ec) := hB.cell 10
      have nf1 := hB.frozen 1
      have m0 := M3.cell 0
      have m1 := M3.cell 1
      have m2 := M3.cell 2
      have m3 := M3.cell 3
      have m4 := M3.cell 4
      have m5 := M3.cell 5
      have m6 := M3.cell 6
      have m7 := M3.cell 7
      have m8 := M3.cell 8
      have m9 := M3.cell 9
      have o0 := M5.cell 0
      have o1 := M5.cell 1
      have o2 := M5.cell 2
      have o3 := M5.cell 3
      have o4 := M5.cell 4
      have o5 := M5.cell 5
      have o6 := M5.cell 6
      have o7 := M5.cell 7
      have o8 := M5.cell 8
      have o9 := M5.cell 9
      have of3 := M5.frozen 3
      have of7 := M5.frozen 7
      simp only [List.getElem?_toArray, List.getElem?_cons_zero, List.getElem?_cons_succ] at m0 m1 m2 m3 m4 m5 m6 m7 m8 m9 o0 o1 o2 o3 o4 o5 o6 o7 o8 o9
      have HN := Lib.hid hN
      have HB := Lib.hid hB
      have HM3 := Lib.hid M3
      have HM5 := Lib.hid M5
      have HNW : Hid (∀ W, Aft wX W → Calls Try.prog 21 #[.agg #[.int .u64 (y.base : Int), .int .u64 (y.bt : Int), .slice p'.eA y.es.length p'.ec], .int .u64 (q : Int), .int .u64 (i : Int)] W fun e w' => e = .returned (.bool (y.newer q i)) ∧ Below W.heap.size W w') := fun W hW => newer_any y.base y.bt y.es.length p'.ec q i p'.er (p'.er + 1) p'.eA y.es W (hN.es.after (by decide) hW) HYK.out.1 HYK.out.2
      have HWD : Hid (∀ W, Aft wX W → Calls Try.prog 73 #[.pointer (some ⟨b, 0, none⟩), .agg #[.int .i64 1, .int .i64 f, .int .i64 d, .int .u64 (t : Int), .int .u64 (i : Int), .int .u64 (q : Int), c, .bool ok, D, E]] W fun e w' => e = .returned (.bool (y.would f t)) ∧ Below W.heap.size W w') := fun W hW => would_vote f d t i q c ok D E W (hB.after hW) rfl
      have HK : Hid (∀ W', Aft wX W' → W'.cell? ⟨b, 8, none⟩ = some (.int .u64 (y.base : Int)) ∧ W'.cell? ⟨b, 9, none⟩ = some (.int .u64 (y.bt : Int)) ∧ W'.cell? ⟨b, 10, none⟩ = some (.slice p'.eA y.es.length p'.ec) ∧ W'.cell? ⟨g3, 0, none⟩ = some (.int .i64 1) ∧ W'.cell? ⟨g3, 1, none⟩ = some (.int .i64 f) ∧ W'.cell? ⟨g3, 2, none⟩ = some (.int .i64 d) ∧ W'.cell? ⟨g3, 3, none⟩ = some (.int .u64 (t : Int)) ∧ W'.cell? ⟨g3, 4, none⟩ = some (.int .u64 (i : Int)) ∧ W'.cell? ⟨g3, 5, none⟩ = some (.int .u64 (q : Int)) ∧ W'.cell? ⟨g3, 6, none⟩ = some (c) ∧ W'.cell? ⟨g3, 7, none⟩ = some (.bool ok) ∧ W'.cell? ⟨g3, 8, none⟩ = some (D) ∧ W'.cell? ⟨g3, 9, none⟩ = some (E)) := fun W' hW' => ⟨cell_below hW' n8, cell_below hW' n9, cell_below hW' n10, cell_below hW' m0, cell_below hW' m1, cell_below hW' m2, cell_below hW' m3, cell_below hW' m4, cell_below hW' m5, cell_below hW' m6, cell_below hW' m7, cell_below hW' m8, cell_below hW' m9⟩
      have hX1 : Aft wX wX.drew := (Aft.refl wX).drew
      have HZ5 : Hid (∀ W', Aft wX W' → (W'.cell? ⟨g5, 0, none⟩ = some (.int .i64 2) ∧ W'.cell? ⟨g5, 1, none⟩ = some (.int .i64 y.me) ∧ W'.cell? ⟨g5, 2, none⟩ = some (.int .i64 f) ∧ W'.cell? ⟨g5, 3, none⟩ = some (.int .u64 0) ∧ W'.cell? ⟨g5, 4, none⟩ = some (.int .u64 0) ∧ W'.cell? ⟨g5, 5, none⟩ = some (.int .u64 0) ∧ W'.cell? ⟨g5, 6, none⟩ = some (.int .u64 0) ∧ W'.cell? ⟨g5, 7, none⟩ = some (.bool false) ∧ W'.cell? ⟨g5, 8, none⟩ = some (.slice none 0 0) ∧ W'.cell? ⟨g5, 9, none⟩ = some (.slice none 0 0)) ∧ W'.frozen? ⟨g5, 3, none⟩ = false ∧ W'.frozen? ⟨g5, 7, none⟩ = false ∧ W'.cell? ⟨b, 6, none⟩ = some (.int .u64 (y.term : Int)) ∧ W'.cell? ⟨b, 1, none⟩ = some (.int .i64 y.vote) ∧ W'.frozen? ⟨b, 1, none⟩ = false) := fun W' hW' => ⟨⟨cell_below hW' o0, cell_below hW' o1, cell_below hW' o2, cell_below hW' o3, cell_below hW' o4, cell_below hW' o5, cell_below hW' o6, cell_below hW' o7, cell_below hW' o8, cell_below hW' o9⟩, (M5.after hW').frozen 3, (M5.after hW').frozen 7, cell_below hW' n6, cell_below hW' n1, (hB.after hW').frozen 1⟩
      clear hN hB M3 M5 n8 n9 n10 m0 m1 m2 m3 m4 m5 m6 m7 m8 m9 o0 o1 o2 o3 o4 o5 o6 o7 o8 o9 of3 of7 n6 n1 nf1
      cases hnw : y.newer q i with
      | false =>
        have HNWB := Lib.hid hnw
        clear hnw
        go_wp2
        obtain ⟨sn8, sn9, sn10, sm0, sm1, sm2, sm3, sm4, sm5, sm6, sm7, sm8, sm9⟩ := HK.out wX (Aft.refl wX)
        first | go_region_law (go_simp; go_at_call 21; refine (HNW.out _ (by first | exact hX1 | exact Aft.refl _)).mono ?_; rintro e w4 ⟨rfl, hb4⟩; have ha4 : Aft wX w4 := (by first | exact Aft.call hX1 hb4 | exact Aft.call (Aft.refl _) hb4); rw [HNWB.out]; obtain ⟨⟨o0, o1, o2, o3, o4, o5, o6, o7, o8, o9⟩, of3, of7, nn6, nn1, nf1⟩ := HZ5.out _ ha4) | fail
        all_goals
          go_wp2
          go_ret
          have hN6 := (((HN.out.after ha4).far1 hg5O hg5H 7 (.bool false)).far1 hg5O hg5H 3 (.int .u64 (y.term : Int)))
          have hC6 := (((HCX.out.same (Chg.below ha4)).new hg5w 7 (.bool false)).new hg5w 3 (.int .u64 (y.term : Int)))
          have hsent := sent_one (m := ⟨2, y.me, f, y.term, 0, 0, false⟩) (g := w4.heap.size) (by simp) hN6 hC6 (fun k hk => by have := hHO.out k hk; have := ha4.size; simp; omega)
          have he : x.onAsk 1 f t i q = (y, [⟨2, y.me, f, y.term, 0, 0, false⟩]) := by rw [HY.out]; simp [ND.onVote, HNWB.out]
          rw [he]
          exact ⟨_, rfl, hsent⟩
      | true =>
        have HNWB := Lib.hid hnw
        clear hnw
        cases hwd : y.would f t with
        | true =>
          have HWDB := Lib.hid hwd
          have HWDB2 := Lib.hid hwd
          unfold ND.would at HWDB2
          clear hwd
          go_wp2
          go_region_held3 (fun W' => W'.cell? ⟨b, 8, none⟩ = some (.int .u64 (y.base : Int)) ∧ W'.cell? ⟨b, 9, none⟩ = some (.int .u64 (y.bt : Int)) ∧ W'.cell? ⟨b, 10, none⟩ = some (.slice p'.eA y.es.length p'.ec) ∧ W'.cell? ⟨g3, 0, none⟩ = some (.int .i64 1) ∧ W'.cell? ⟨g3, 1, none⟩ = some (.int .i64 f) ∧ W'.cell? ⟨g3, 2, none⟩ = some (.int .i64 d) ∧ W'.cell? ⟨g3, 3, none⟩ = some (.int .u64 (t : Int)) ∧ W'.cell? ⟨g3, 4, none⟩ = some (.int .u64 (i : Int)) ∧ W'.cell? ⟨g3, 5, none⟩ = some (.int .u64 (q : Int)) ∧ W'.cell? ⟨g3, 6, none⟩ = some (c) ∧ W'.cell? ⟨g3, 7, none⟩ = some (.bool ok) ∧ W'.cell? ⟨g3, 8, none⟩ = some (D) ∧ W'.cell? ⟨g3, 9, none⟩ = some (E)) (first | (with_reducible exact HK.out _ hX1) | (with_reducible exact HK.out _ ha4) | (with_reducible exact HK.out _ ha5) | (obtain ⟨sn8, sn9, sn10, sm0, sm1, sm2, sm3, sm4, sm5, sm6, sm7, sm8, sm9⟩ := HK.out _ ha5; exact ⟨cell_far sn8 hb5' _ _, cell_far sn9 hb5' _ _, cell_far sn10 hb5' _ _, cell_far sm0 h35 _ _, cell_far sm1 h35 _ _, cell_far sm2 h35 _ _, cell_far sm3 h35 _ _, cell_far sm4 h35 _ _, cell_far sm5 h35 _ _, cell_far sm6 h35 _ _, cell_far sm7 h35 _ _, cell_far sm8 h35 _ _, cell_far sm9 h35 _ _⟩)) (first | (go_at_call 21; refine (HNW.out _ hX1).mono ?_; rintro e w4 ⟨rfl, hb4⟩; have ha4 : Aft wX w4 := Aft.call hX1 hb4; rw [HNWB.out]) | (go_at_call 73; refine (HWD.out _ ha4).mono ?_; rintro e w5 ⟨rfl, hb5⟩; have ha5 : Aft wX w5 := Aft.call ha4 hb5; rw [HWDB.out]; obtain ⟨⟨o0, o1, o2, o3, o4, o5, o6, o7, o8, o9⟩, of3, of7, nn6, nn1, nf1⟩ := HZ5.out _ ha5))
          all_goals
            go_wp2
            go_ret
            have hN5 := (((HN.out.after ha5).far1 hg5O hg5H 7 (.bool true)).far1 hg5O hg5H 3 (.int .u64 (y.term : Int)))
            have hbb := hN5.blk.set_ 1 (.int .i64 f)
            have hN6 := hN5.put (x' := { y with vote := f }) (only_setCell (World.grownBy.refl _ (some b)) 1 (.int .i64 f)) (by simpa [NP.cells] using hbb) rfl rfl rfl rfl rfl
            have hC6 := ((((HCX.out.same (Chg.below ha5)).new hg5w 7 (.bool true)).new hg5w 3 (.int .u64 (y.term : Int))).put HN.out.bO 1 (.int .i64 f))
            have hsent := sent_one (m := ⟨2, y.me, f, y.term, 0, 0, true⟩) (g := w5.heap.size) (by simp) hN6 hC6 (fun k hk => by have := hHO.out k hk; have := ha5.size; simp; omega)
            have he : x.onAsk 1 f t i q = ({ y with vote := f }, [⟨2, y.me, f, y.term, 0, 0, true⟩]) := by rw [HY.out]; simp [ND.onVote, HNWB.out, HWDB2.out]
            rw [he]
            exact ⟨_, rfl, hsent⟩
        | false =>
          have HWDB := Lib.hid hwd
          have HWDB2 := Lib.hid hwd
          unfold ND.would at HWDB2
          clear hwd
          go_wp2
          go_region_held3 (fun W' => W'.cell? ⟨b, 8, none⟩ = some (.int .u64 (y.base : Int)) ∧ W'.cell? ⟨b, 9, none⟩ = some (.int .u64 (y.bt : Int)) ∧ W'.cell? ⟨b, 10, none⟩ = some (.slice p'.eA y.es.length p'.ec) ∧ W'.cell? ⟨g3, 0, none⟩ = some (.int .i64 1) ∧ W'.cell? ⟨g3, 1, none⟩ = some (.int .i64 f) ∧ W'.cell? ⟨g3, 2, none⟩ = some (.int .i64 d) ∧ W'.cell? ⟨g3, 3, none⟩ = some (.int .u64 (t : Int)) ∧ W'.cell? ⟨g3, 4, none⟩ = some (.int .u64 (i : Int)) ∧ W'.cell? ⟨g3, 5, none⟩ = some (.int .u64 (q : Int)) ∧ W'.cell? ⟨g3, 6, none⟩ = some (c) ∧ W'.cell? ⟨g3, 7, none⟩ = some (.bool ok) ∧ W'.cell? ⟨g3, 8, none⟩ = some (D) ∧ W'.cell? ⟨g3, 9, none⟩ = some (E)) (first | (with_reducible exact HK.out _ hX1) | (with_reducible exact HK.out _ ha4) | (with_reducible exact HK.out _ ha5) | (obtain ⟨sn8, sn9, sn10, sm0, sm1, sm2, sm3, sm4, sm5, sm6, sm7, sm8, sm9⟩ := HK.out _ ha5; exact ⟨cell_far sn8 hb5' _ _, cell_far sn9 hb5' _ _, cell_far sn10 hb5' _ _, cell_far sm0 h35 _ _, cell_far sm1 h35 _ _, cell_far sm2 h35 _ _, cell_far sm3 h35 _ _, cell_far sm4 h35 _ _, cell_far sm5 h35 _ _, cell_far sm6 h35 _ _, cell_far sm7 h35 _ _, cell_far sm8 h35 _ _, cell_far sm9 h35 _ _⟩)) (first | (go_at_call 21; refine (HNW.out _ hX1).mono ?_; rintro e w4 ⟨rfl, hb4⟩; have ha4 : Aft wX w4 := Aft.call hX1 hb4; rw [HNWB.out]) | (go_at_call 73; refine (HWD.out _ ha4).mono ?_; rintro e w5 ⟨rfl, hb5⟩; have ha5 : Aft wX w5 := Aft.call ha4 hb5; rw [HWDB.out]; obtain ⟨⟨o0, o1, o2, o3, o4, o5, o6, o7, o8, o9⟩, of3, of7, nn6, nn1, nf1⟩ := HZ5.out _ ha5))
          all_goals
            go_wp2
            go_ret
            have hN6 := (((HN.out.after ha5).far1 hg5O hg5H 7 (.bool false)).far1 hg5O hg5H 3 (.int .u64 (y.term : Int)))
            have hC6 := (((HCX.out.same (Chg.below ha5)).new hg5w 7 (.bool false)).new hg5w 3 (.int .u64 (y.term : Int)))
            have hsent := sent_one (m := ⟨2, y.me, f, y.term, 0, 0, false⟩) (g := w5.heap.size) (by simp) hN6 hC6 (fun k hk => by have := hHO.out k hk; have := ha5.size; simp; omega)
            have he : x.onAsk 1 f t i q = (y, [⟨2, y.me, f, y.term, 0, 0, false⟩]) := by rw [HY.out]; simp [ND.onVote, HNWB.out, HWDB2.out]
            rw [he]
            exact ⟨_, rfl, hsent⟩
end
end Go.Proofs.Ytbgdepaffgeinaa
