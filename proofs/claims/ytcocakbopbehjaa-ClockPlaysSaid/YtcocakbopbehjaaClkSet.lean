/- Set. -/
import Derived.Test.YtcocakbopbehjaaClkOps
namespace Go.Proofs.Ytcocakbopbehjaa
open Go.RowKit
theorem tm_info : (Try.prog.info? 62).map (fun i => (i.zero, i.size, i.bytes)) = some (some (.agg #[.int .i64 0, .int .u64 0]), 2, 16) := by kernel_rfl
theorem tm_two (a : Int) (b : Nat) : ∀ u ∈ [Value.int .i64 a, .int .u64 (b : Int)], u.oneCell' = true := by
  intro u hu
  simp only [List.mem_cons, List.not_mem_nil, or_false] at hu
  rcases hu with rfl | rfl <;> rfl
section
variable {H : Nat} {O : Nat → Prop} {g : Nat} {ns : List PN}
set_option maxRecDepth 100000 in
theorem cset_no (i id a : Int) (w : World) (h : ClkAt H w O g ns) (hi : ¬ (0 ≤ i ∧ i < (ns.length : Int))) :
    Calls Try.prog 10 #[.pointer (some ⟨g, 0, none⟩), .int .i64 i, .int .i64 id, .int .u64 a] w fun e w' => e = .returned (.int .i64 31) ∧ w = w' := by
  have hC := cnode_no i w h hi
  clear h hi
  go_enter Try.func10, Try.ntmps10
  go_wp2_with fail
  refine hC.mono ?_
  rintro e _ ⟨rfl, rfl⟩
  go_wp2
  go_ret
  exact ⟨rfl, rfl⟩
theorem set_same {i : Nat} {p : PN} (hi : ns[i]? = some p) : ns.set i p = ns := by
  obtain ⟨h1, h2⟩ := List.getElem?_eq_some_iff.1 hi
  subst h2
  exact List.set_getElem_self h1
theorem stay {w w1 : World} (h : ClkAt H w O g ns) {i : Nat} {p : PN} (hi : ns[i]? = some p) (hb : Below w.heap.size w w1) : ∃ O', ClkAt H w1 O' g (ns.set i p) ∧ Sub O w O' ∧ Chg O w w1 :=
  ⟨O, by rw [set_same hi]; exact h.after hb, Sub.refl _ _, Chg.below hb⟩
set_option maxRecDepth 100000 in
set_option maxHeartbeats 1600000 in
theorem cset_any (i : Nat) (id : Int) (a : Nat) (w : World) (h : ClkAt H w O g ns) {p p' : PN} {E : Nat} (hi : ns[i]? = some p) (ha : a < 18446744073709551616) (hset : p.set id a = (p', E)) :
    Calls Try.prog 10 #[.pointer (some ⟨g, 0, none⟩), .int .i64 (i : Int), .int .i64 id, .int .u64 (a : Int)] w fun e w' => e = .returned (.int .i64 (E : Int)) ∧ ∃ O', ClkAt H w' O' g (ns.set i p') ∧ Sub O w O' ∧ Chg O w w' := by
  have HST : Hid (∀ w1, Below w.heap.size w w1 → ∃ O', ClkAt H w1 O' g (ns.set i p) ∧ Sub O w O' ∧ Chg O w w1) := fun w1 hb => stay h hi hb
  obtain ⟨⟨xb, xv, xp⟩, hG⟩ := h.got hi
  obtain ⟨hC, rfl, hN, ht⟩ := hG
  have hF := cfind_any id _ w hN
  obtain ⟨A, c, hv, -⟩ := own_sl hN.row
  have hok := hN.ok
  obtain ⟨now, ts, pz⟩ := xp
  simp only at hC hv hF HST hset
  subst hv
  have HT := Lib.hid ht
  have HN := Lib.hid hN
  have hnow : now < 18446744073709551616 := hok.now
  have hlen : ts.length ≤ 40 := hok.len
  have HTS := Lib.hid hok.ts
  simp only at HTS
  obtain ⟨n, hn⟩ : ∃ n, ts.length = n := ⟨_, rfl⟩
  have hsetn := hset
  unfold PN.set at hsetn
  simp only [hn] at hsetn hF hlen
  have HNL := Lib.hid hn
  clear h hi hN ht hok hn hset
  by_cases hov : 18446744073709551616 ≤ now + a
  · rw [if_pos hov] at hsetn
    injection hsetn with e1 e2
    subst e1 e2
    have hw : IntKind.u64.wrap ((now : Int) + (a : Int)) = ((now + a - 18446744073709551616 : Nat) : Int) := by rw [IntKind.wrap_u64]; omega
    have hlt : ((now + a - 18446744073709551616 : Nat) : Int) < (now : Int) := by omega
    generalize now + a - 18446744073709551616 = m at hw hlt
    go_enter Try.func10, Try.ntmps10
    go_wp2_with fail
    refine hC.mono ?_
    rintro e _ ⟨rfl, rfl⟩
    go_wp2_with fail
    refine hF.mono ?_
    rintro e w2 ⟨hb2, hcase⟩
    obtain ⟨x0, x1, x2⟩ := (HN.out.blk.after hb2).c3
    have hl2 := (HN.out.blk.after hb2).lt
    simp only [HNL.out] at x0 x1 x2 hl2
    have hne : xb ≠ w2.heap.size := by omega
    rcases hcase with ⟨rfl, -⟩ | ⟨-, rfl⟩
    · go_wp2
      go_quiet (fail)
      go_wp2
      go_ret
      exact ⟨rfl, HST.out _ (below_drewN (hb2.alloc hb2.size _) _)⟩
    · generalize fidx id ts = k
      go_wp2
      go_quiet (fail)
      go_wp2
      go_ret
      exact ⟨rfl, HST.out _ (below_drewN (hb2.alloc hb2.size _) _)⟩
  · rw [if_neg hov] at hsetn
    have hw : IntKind.u64.wrap ((now : Int) + (a : Int)) = ((now + a : Nat) : Int) := by rw [IntKind.wrap_u64]; omega
    have hlt : ¬ ((now + a : Nat) : Int) < (now : Int) := by omega
    have hlt' : ¬ now + a < now := by omega
    have hmb : now + a < 18446744073709551616 := by omega
    have HOV := Lib.hid hmb
    clear hov
    obtain ⟨m, hm⟩ : ∃ m, now + a = m := ⟨_, rfl⟩
    rw [hm] at hw hlt hlt' hsetn HOV
    clear hm hmb
    go_enter Try.func10, Try.ntmps10
    go_wp2_with fail
    refine hC.mono ?_
    rintro e _ ⟨rfl, rfl⟩
    go_wp2_with fail
    refine hF.mono ?_
    rintro e w2 ⟨hb2, hcase⟩
    obtain ⟨x0, x1, x2⟩ := (HN.out.blk.after hb2).c3
    have hl2 := (HN.out.blk.after hb2).lt
    simp only [HNL.out] at x0 x1 x2 hl2
    have hne : xb ≠ w2.heap.size := by omega
    rcases hcase with ⟨rfl, hno⟩ | ⟨hk, rfl⟩
    · rw [if_neg hno] at hsetn
      by_cases h40 : 40 ≤ n
      · rw [if_pos h40] at hsetn
        injection hsetn with e1 e2
        subst e1 e2
        go_wp2
        go_quiet (fail)
        go_wp2
        go_ret
        exact ⟨rfl, HST.out _ (below_drewN (hb2.alloc hb2.size _) _)⟩
      · rw [if_neg h40] at hsetn
        injection hsetn with e1 e2
        subst e1 e2
        obtain ⟨i0, hi0, hz0, hz1, hz2⟩ := info_parts tm_info
        clear hno
        go_wp2
        go_quiet (fail)
        have B3 : Blk ((w2.alloc (.cells #[.int .i64 id, .int .u64 (m : Int)] 62)).drewN nq) w2.heap.size 62 #[.int .i64 id, .int .u64 (m : Int)] := (Blk.new w2 _ _).drewN nq
        have hb3 : Below w.heap.size w ((w2.alloc (.cells #[.int .i64 id, .int .u64 (m : Int)] 62)).drewN nq) := below_drewN (hb2.alloc hb2.size _) nq
        generalize (w2.alloc (.cells #[.int .i64 id, .int .u64 (m : Int)] 62)).drewN nq = w3 at B3 hb3 ⊢
        generalize w2.heap.size = tb at B3 ⊢
        clear x0 x1 x2 hl2 hb2 hne
        have hN3 := HN.out.keep (hb3.block _ HN.out.blk.lt) fun b hb => hb3.block b (HN.out.row.lt b hb).2
        obtain ⟨x0, x1, x2⟩ := hN3.blk.c3
        obtain ⟨t0, t1⟩ := B3.c2
        have hRow : ∀ W, Below w3.heap.size w3 W → _ := fun W hW => own_after hN3.row hW
        have HROW := Lib.hid hRow
        have HN3 := Lib.hid hN3
        simp only [HNL.out] at x0 x1 x2 HROW
        clear hRow hN3
        have HB3 := Lib.hid hb3
        have hx3 := HN3.out.blk
        have hnv : (Value.slice A ts.length c).ownBlock ≠ some xb := row_ne HN3.out.row HN3.out.blk (by decide)
        simp only at hx3
        rw [HNL.out] at hx3 hnv
        have HX3 := Lib.hid hx3
        have HNV := Lib.hid hnv
        have hne3 : xb ≠ w3.heap.size := by have := HN3.out.blk.lt; simp only at this; omega
        have xa1 : (w3.alloc (.cells #[.int .i64 id, .int .u64 (m : Int)] 62)).cell? ⟨xb, 1, none⟩ = some (.slice A n c) := Lib.cell?_alloc_some _ x1
        clear hb3 hx3 hnv B3
        go_wp2
        go_region_law (refine step_app _ rfl (.tmp 62) (.tmp 64) 56 rfl 0 62 i0 _ 2 16 Try.underlying56 hi0 hz0 hz1 hz2 rfl (by omega) (.slice A n c) n (tcells ts) (by simp [Act.eval, Act.put]) (by first | exact HROW.out _ ((Below.refl _ _).alloc (Nat.le_refl _) _) | exact HROW.out _ (below_drewN ((Below.refl _ _).alloc (Nat.le_refl _) _) 1)) _ _ (some ⟨w3.heap.size, 0, none⟩) 1 1 [.int .i64 id, .int .u64 (m : Int)] (by simp [Act.eval, Act.put]) (by first | exact sl_new w3 2 1 1 _ _ rfl (Nat.le_refl _) (by decide) | exact sl_new w3.drew 2 1 1 _ _ rfl (Nat.le_refl _) (by decide)) (tm_two _ _) (by simp only [maxLen]; omega) (by omega) (Nat.zero_le _) ?_; intro v4 w4 o4 g4 a4; have hb4 : Blk w4 xb _ _ := Blk.grown (w := w3.alloc (.cells #[.int .i64 id, .int .u64 (m : Int)] 62)) (HX3.out.alloc _) ⟨g4.os, g4.tape, g4.output, g4.size, g4.block⟩ (fun e => HNV.out e.symm); obtain ⟨y0, y1, y2⟩ := hb4.c3; have f1 := hb4.frozen 1; obtain ⟨A4, c4, hv4, -⟩ := own_sl o4; subst hv4)
        all_goals
          go_wp2
          go_ret
          refine ⟨rfl, ?_⟩
          have hN := HN3.out
          have hb4 : Blk w4 xb _ _ := Blk.grown (w := w3.alloc (.cells #[.int .i64 id, .int .u64 (m : Int)] 62)) (HX3.out.alloc _) ⟨g4.os, g4.tape, g4.output, g4.size, g4.block⟩ (fun e => HNV.out e.symm)
          have hg4 : (w3.alloc (.cells #[.int .i64 id, .int .u64 (m : Int)] 62)).grownBy w4 (Value.slice A n c).ownBlock := ⟨g4.os, g4.tape, g4.output, g4.size, g4.block⟩
          have hsz : w.heap.size ≤ w3.heap.size := HB3.out.size
          have hc : Chg (fun k => k = xb ∨ (Value.slice A ts.length c).ownBlock = some k) w (w4.setCell ⟨xb, 1, none⟩ (.slice A4 (n + 1) c4)) := by
            have h1 := Chg.grown (O := fun k => k = xb ∨ (Value.slice A ts.length c).ownBlock = some k) hg4 (fun b hb => .inl (.inr (by rw [HNL.out]; exact hb)))
            exact Chg.put (Chg.same (Chg.below ((HB3.out).alloc hsz _)) h1) (.inl rfl) 1 _
          refine HT.out _ (.slice A4 (n + 1) c4) ⟨now, ts ++ [(id, m)], pz⟩ hc ⟨?_, ?_, ⟨hnow, ?_, ?_⟩⟩ ?_
          · have := hb4.set_ 1 (.slice A4 (n + 1) c4)
            simpa using this
          · show World.ownsRow _ _ _ _ _ (ts ++ [(id, m)]).length _
            rw [tcells_append, List.length_append, HNL.out]
            exact own_far o4 (row_ne o4 hb4 (by decide)) _ _
          · show (ts ++ [(id, m)]).length ≤ 40
            rw [List.length_append, HNL.out]
            simp; omega
          · intro t ht
            rcases List.mem_append.1 ht with h | h
            · exact HTS.out t h
            · rw [List.mem_singleton.1 h]; exact HOV.out
          · rw [HNL.out]
            rcases a4 with e | e
            · exact .inl e
            · refine .inr fun b hb => ?_
              have hb' : some _ = some b := e.symm.trans hb
              injection hb' with hb'
              have : w3.heap.size ≤ b := by rw [← hb']; simp
              omega
    · rw [if_pos hk] at hsetn
      injection hsetn with e1 e2
      subst e1 e2
      generalize hkk : fidx id ts = k at hk ⊢
      have hk0 : ¬ ((k : Int) < 0) := by omega
      have hkd : decide ((k : Int) < 0) = false := decide_eq_false hk0
      go_wp2
      go_quiet (fail)
      have B3 : Blk ((w2.alloc (.cells #[.int .i64 id, .int .u64 (m : Int)] 62)).drewN nq) w2.heap.size 62 #[.int .i64 id, .int .u64 (m : Int)] := (Blk.new w2 _ _).drewN nq
      have hb3 : Below w.heap.size w ((w2.alloc (.cells #[.int .i64 id, .int .u64 (m : Int)] 62)).drewN nq) := below_drewN (hb2.alloc hb2.size _) nq
      generalize (w2.alloc (.cells #[.int .i64 id, .int .u64 (m : Int)] 62)).drewN nq = w3 at B3 hb3 ⊢
      generalize w2.heap.size = tb at B3 ⊢
      clear x0 x1 x2 hl2 hb2 hne
      have hN3 := HN.out.keep (hb3.block _ HN.out.blk.lt) fun b hb => hb3.block b (HN.out.row.lt b hb).2
      obtain ⟨x0, x1, x2⟩ := hN3.blk.c3
      obtain ⟨t0, t1⟩ := B3.c2
      have hrow := hN3.row
      have hxr : (Value.slice A ts.length c).ownBlock ≠ some xb := row_ne hN3.row hN3.blk (by decide)
      have HN3 := Lib.hid hN3
      have HB3 := Lib.hid hb3
      simp only at hrow x0 x1 x2
      rw [HNL.out] at x1 hrow hxr
      obtain ⟨gb, hA⟩ : ∃ gb, A = some ⟨gb, 0, none⟩ := by
        rcases hrow.2 with ⟨_, h0⟩ | ⟨gb, cap, cur, hv, _⟩
        · omega
        · injection hv with e; exact ⟨gb, e⟩
      subst hA
      obtain ⟨ti, hti⟩ : ∃ t, ts[k]? = some t := ⟨_, List.getElem?_eq_getElem (by rw [HNL.out]; exact hk)⟩
      obtain ⟨q0, q1⟩ := tcells_at ts k ti hti
      have z0 := hrow.cells rfl _ _ q0
      have z1 := hrow.cells rfl _ _ q1
      rw [addr0] at z0 z1
      have fz : ∀ j, w3.frozen? ⟨gb, j, none⟩ = false := by
        rcases hrow.2 with ⟨hv, _⟩ | ⟨gb', cap, cur, hv, _, hh, _⟩
        · cases hv
        · intro j
          have e : gb = gb' := by injection hv with e; injection e with e; injection e
          subst e
          simp [World.frozen?, hh]
      have fz0 := fz (k * 2)
      have fz1 := fz (k * 2 + 1)
      have HROW := Lib.hid hrow
      have HXR := Lib.hid hxr
      have HK := Lib.hid hkk
      clear hrow hxr fz hb3 hN3 q0 q1 hti B3 hkk
      go_wp2
      go_region
      all_goals
        go_wp2
        go_ret
        refine ⟨rfl, ?_⟩
        have hN := HN3.out
        rw [HK.out]
        have hrow2 := own_setCells HROW.out rfl (k * 2) [.int .i64 id, .int .u64 (m : Int)] (by simp; omega)
        have hgr := grown_setCells [.int .i64 id, .int .u64 (m : Int)] (k * 2) (World.grownBy.refl w3 (some gb))
        refine HT.out _ (.slice (some ⟨gb, 0, none⟩) ts.length c) ⟨now, ts.set k (id, m), pz⟩ ?_ ⟨?_, ?_, ⟨hnow, ?_, ?_⟩⟩ (.inl rfl)
        · exact ((Chg.below HB3.out).same (Chg.grown (O := fun k => k = xb ∨ (Value.slice (some ⟨gb, 0, none⟩) ts.length c).ownBlock = some k) hgr fun b hb => .inl (.inr hb))).drewN 1
        · exact (hN.blk.grown hgr (fun e => HXR.out e.symm)).drew
        · show World.ownsRow _ _ _ _ _ (ts.set k (id, m)).length _
          rw [List.length_set, tcells_set _ _ _ (by rw [HNL.out]; exact hk), HNL.out]
          exact hrow2
        · show (ts.set k (id, m)).length ≤ 40
          rw [List.length_set, HNL.out]; exact hlen
        · intro t ht
          rcases List.mem_or_eq_of_mem_set ht with h | h
          · exact HTS.out t h
          · rw [h]; exact HOV.out
end
end Go.Proofs.Ytcocakbopbehjaa
