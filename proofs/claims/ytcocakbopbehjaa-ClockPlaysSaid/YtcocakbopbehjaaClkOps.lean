/- The clocks' small functions: node, Now, Tick, Pause, find. -/
import Derived.Test.YtcocakbopbehjaaClkFind
namespace Go.Proofs.Ytcocakbopbehjaa
open Go.RowKit
section
variable {H : Nat} {O : Nat → Prop} {g : Nat} {ns : List PN}
set_option maxRecDepth 100000 in
theorem cnode_no (i : Int) (w : World) (h : ClkAt H w O g ns) (hi : ¬ (0 ≤ i ∧ i < (ns.length : Int))) :
    Calls Try.prog 25 #[.pointer (some ⟨g, 0, none⟩), .int .i64 i] w fun e w' => e = .returned (.pointer none) ∧ w = w' := by
  obtain ⟨v, xs, hg, hr, -, -, -, -⟩ := h.st
  obtain ⟨A, c, rfl, hs⟩ := own_sl hr
  have x0 := hg.c1
  clear hg hr hs h
  generalize ns.length = n at x0 hi
  by_cases h0 : i < 0
  · go_enter Try.func25, Try.ntmps25
    go_wp2
    go_ret
    exact ⟨rfl, rfl⟩
  · have h1 : (n : Int) ≤ i := by omega
    clear hi
    go_enter Try.func25, Try.ntmps25
    go_wp2
    go_ret
    exact ⟨rfl, rfl⟩
set_option maxRecDepth 100000 in
theorem cnode_ok (i : Nat) (w : World) {v : Value} {xs : List NB} {x : NB} {n : Nat} (hg : Blk w g 54 #[v]) (hr : w.ownsRow 0 55 1 v n (xs.map NB.ptr)) (hi : xs[i]? = some x) :
    Calls Try.prog 25 #[.pointer (some ⟨g, 0, none⟩), .int .i64 (i : Int)] w fun e w' => e = .returned (.pointer (some ⟨x.b, 0, none⟩)) ∧ w = w' := by
  obtain ⟨A, c, rfl, hs⟩ := own_sl hr
  have x0 := hg.c1
  have hin : i < n := by
    have h1 := (List.getElem?_eq_some_iff.1 hi).1
    have h2 := hr.1
    rw [List.length_map, Nat.mul_one] at h2
    omega
  obtain ⟨ad, u, rfl, hu, hc⟩ := hs.nth hin
  rw [List.getElem?_map, hi] at hu
  have hu' : x.ptr = u := by simpa using hu
  subst hu'
  unfold NB.ptr at hc
  have hb1 := hs.max
  have hb2 := hs.cap
  clear hg hr hs hi hu
  generalize x.b = xb at hc ⊢
  go_enter Try.func25, Try.ntmps25
  go_wp2
  go_ret
  exact ⟨rfl, rfl⟩
/-- a node of the clocks -/
structure Got (H : Nat) (w : World) (O : Nat → Prop) (g : Nat) (ns : List PN) (i : Nat) (p : PN) (x : NB) : Prop where
  call : Calls Try.prog 25 #[.pointer (some ⟨g, 0, none⟩), .int .i64 (i : Int)] w fun e w' => e = .returned (.pointer (some ⟨x.b, 0, none⟩)) ∧ w = w'
  xp : x.p = p
  node : NodeAt w x
  turn : ∀ (w1 : World) (v' : Value) (p' : PN), Chg (fun k => k = x.b ∨ x.v.ownBlock = some k) w w1 → NodeAt w1 ⟨x.b, v', p'⟩ → (v'.ownBlock = x.v.ownBlock ∨ ∀ b, v'.ownBlock = some b → w.heap.size ≤ b) → ∃ O', ClkAt H w1 O' g (ns.set i p') ∧ Sub O w O' ∧ Chg O w w1
theorem ClkAt.got {w : World} (h : ClkAt H w O g ns) {i : Nat} {p : PN} (hi : ns[i]? = some p) : ∃ x, Got H w O g ns i p x := by
  obtain ⟨v, xs, hg, hr, hrO, hns, hx, hp⟩ := h.st
  have h2 := hi
  rw [← hns, List.getElem?_map] at h2
  obtain ⟨x, hxi, hxp⟩ := Option.map_eq_some_iff.1 h2
  exact ⟨x, cnode_ok i w hg hr hxi, hxp, (hx x (List.mem_of_getElem? hxi)).1, fun w1 v' p' hc hN hv' => h.turn hg hr hrO hns hx hp hxi hc hN hv'⟩
/-- which of the nodes, if one -/
theorem pick (ns : List PN) (i : Int) : (¬ (0 ≤ i ∧ i < (ns.length : Int))) ∨ ∃ (k : Nat) (p : PN), i = (k : Int) ∧ ns[k]? = some p := by
  by_cases h : 0 ≤ i ∧ i < (ns.length : Int)
  · exact .inr ⟨i.toNat, ns[i.toNat]'(by omega), by omega, List.getElem?_eq_getElem _⟩
  · exact .inl h
set_option maxRecDepth 100000 in
theorem cnow_no (i : Int) (w : World) (h : ClkAt H w O g ns) (hi : ¬ (0 ≤ i ∧ i < (ns.length : Int))) :
    Calls Try.prog 14 #[.pointer (some ⟨g, 0, none⟩), .int .i64 i] w fun e w' => e = .returned (.int .u64 0) ∧ w = w' := by
  have hC := cnode_no i w h hi
  clear h hi
  go_enter Try.func14, Try.ntmps14
  go_wp2_with fail
  refine hC.mono ?_
  rintro e _ ⟨rfl, rfl⟩
  go_wp2
  go_ret
  exact ⟨rfl, rfl⟩
set_option maxRecDepth 100000 in
theorem cnow_ok (i : Nat) (w : World) (h : ClkAt H w O g ns) {p : PN} (hi : ns[i]? = some p) :
    Calls Try.prog 14 #[.pointer (some ⟨g, 0, none⟩), .int .i64 (i : Int)] w fun e w' => e = .returned (.int .u64 (p.now : Int)) ∧ w = w' := by
  obtain ⟨⟨xb, xv, xp⟩, hG⟩ := h.got hi
  obtain ⟨hC, rfl, hN, -⟩ := hG
  obtain ⟨x0, x1, x2⟩ := hN.blk.c3
  obtain ⟨now, ts, pz⟩ := xp
  simp only at hC x0 x1 x2 ⊢
  clear h hi hN
  go_enter Try.func14, Try.ntmps14
  go_wp2_with fail
  refine hC.mono ?_
  rintro e _ ⟨rfl, rfl⟩
  go_wp2
  go_ret
  exact ⟨rfl, rfl⟩
set_option maxRecDepth 100000 in
theorem ctick_no (i : Int) (a : Int) (w : World) (h : ClkAt H w O g ns) (hi : ¬ (0 ≤ i ∧ i < (ns.length : Int))) :
    Calls Try.prog 11 #[.pointer (some ⟨g, 0, none⟩), .int .i64 i, .int .u64 a] w fun e w' => e = .returned (.int .i64 31) ∧ w = w' := by
  have hC := cnode_no i w h hi
  clear h hi
  go_enter Try.func11, Try.ntmps11
  go_wp2_with fail
  refine hC.mono ?_
  rintro e _ ⟨rfl, rfl⟩
  go_wp2
  go_ret
  exact ⟨rfl, rfl⟩
set_option maxRecDepth 100000 in
theorem ctick_full (i a : Nat) (w : World) (h : ClkAt H w O g ns) {p : PN} (hi : ns[i]? = some p) (ha : a < 18446744073709551616) (hf : 18446744073709551616 ≤ p.now + a) :
    Calls Try.prog 11 #[.pointer (some ⟨g, 0, none⟩), .int .i64 (i : Int), .int .u64 (a : Int)] w fun e w' => e = .returned (.int .i64 42) ∧ ∃ q, w' = w.drewN q := by
  obtain ⟨⟨xb, xv, xp⟩, hG⟩ := h.got hi
  obtain ⟨hC, rfl, hN, -⟩ := hG
  obtain ⟨x0, x1, x2⟩ := hN.blk.c3
  have hnw := hN.ok.now
  obtain ⟨now, ts, pz⟩ := xp
  simp only at hC x0 x1 x2 hnw hf ⊢
  have hw : IntKind.u64.wrap ((now : Int) + (a : Int)) = ((now + a - 18446744073709551616 : Nat) : Int) := by rw [IntKind.wrap_u64]; omega
  have hlt : ((now + a - 18446744073709551616 : Nat) : Int) < (now : Int) := by omega
  clear h hi hN
  generalize now + a - 18446744073709551616 = m at hw hlt
  go_enter Try.func11, Try.ntmps11
  go_wp2_with fail
  refine hC.mono ?_
  rintro e _ ⟨rfl, rfl⟩
  go_wp2
  go_quiet (fail)
  go_wp2
  go_ret
  exact ⟨rfl, _, rfl⟩
set_option maxRecDepth 100000 in
theorem ctick_ok (i a : Nat) (w : World) (h : ClkAt H w O g ns) {p : PN} (hi : ns[i]? = some p) (hf : p.now + a < 18446744073709551616) :
    Calls Try.prog 11 #[.pointer (some ⟨g, 0, none⟩), .int .i64 (i : Int), .int .u64 (a : Int)] w fun e w' => e = .returned (.int .i64 0) ∧ ∃ O', ClkAt H w' O' g (ns.set i ⟨p.now + a, p.ts, p.paused⟩) ∧ Sub O w O' ∧ Chg O w w' := by
  obtain ⟨⟨xb, xv, xp⟩, hG⟩ := h.got hi
  obtain ⟨hC, rfl, hN, ht⟩ := hG
  obtain ⟨x0, x1, x2⟩ := hN.blk.c3
  have f0 := hN.blk.frozen 0
  obtain ⟨now, ts, pz⟩ := xp
  simp only at hC x0 x1 x2 hf f0 ⊢
  have hw : IntKind.u64.wrap ((now : Int) + (a : Int)) = ((now + a : Nat) : Int) := by rw [IntKind.wrap_u64]; omega
  have hlt : ¬ ((now + a : Nat) : Int) < (now : Int) := by omega
  have HT := Lib.hid ht
  have HN := Lib.hid hN
  clear h hi hN ht
  obtain ⟨m, hm⟩ : ∃ m, now + a = m := ⟨_, rfl⟩
  rw [hm] at hw hlt hf ⊢
  clear hm
  go_enter Try.func11, Try.ntmps11
  go_wp2_with fail
  refine hC.mono ?_
  rintro e _ ⟨rfl, rfl⟩
  go_wp2
  go_quiet (fail)
  go_wp2
  go_ret
  refine ⟨rfl, ?_⟩
  have hN := HN.out
  have hc : Chg (fun k => k = xb ∨ xv.ownBlock = some k) w ((w.drewN nq).setCell ⟨xb, 0, none⟩ (.int .u64 (m : Int))) := ((Chg.refl _ w).drewN nq).put (.inl rfl) 0 _
  exact HT.out _ xv ⟨m, ts, pz⟩ hc ⟨by have := (hN.blk.drewN nq).set_ 0 (.int .u64 (m : Int)); simpa using this, own_far hN.row (row_ne hN.row hN.blk (by decide)) _ _, hf, hN.ok.len, hN.ok.ts⟩ (.inl rfl)
set_option maxRecDepth 100000 in
theorem cpause_no (i : Int) (b : Bool) (w : World) (h : ClkAt H w O g ns) (hi : ¬ (0 ≤ i ∧ i < (ns.length : Int))) :
    Calls Try.prog 12 #[.pointer (some ⟨g, 0, none⟩), .int .i64 i, .bool b] w fun e w' => e = .returned (.int .i64 31) ∧ w = w' := by
  have hC := cnode_no i w h hi
  clear h hi
  go_enter Try.func12, Try.ntmps12
  go_wp2_with fail
  refine hC.mono ?_
  rintro e _ ⟨rfl, rfl⟩
  go_wp2
  go_ret
  exact ⟨rfl, rfl⟩
set_option maxRecDepth 100000 in
theorem cpause_ok (i : Nat) (b : Bool) (w : World) (h : ClkAt H w O g ns) {p : PN} (hi : ns[i]? = some p) :
    Calls Try.prog 12 #[.pointer (some ⟨g, 0, none⟩), .int .i64 (i : Int), .bool b] w fun e w' => e = .returned (.int .i64 0) ∧ ∃ O', ClkAt H w' O' g (ns.set i ⟨p.now, p.ts, b⟩) ∧ Sub O w O' ∧ Chg O w w' := by
  obtain ⟨⟨xb, xv, xp⟩, hG⟩ := h.got hi
  obtain ⟨hC, rfl, hN, ht⟩ := hG
  obtain ⟨x0, x1, x2⟩ := hN.blk.c3
  have f0 := hN.blk.frozen 2
  obtain ⟨now, ts, pz⟩ := xp
  simp only at hC x0 x1 x2 f0 ⊢
  have HT := Lib.hid ht
  have HN := Lib.hid hN
  clear h hi hN ht
  go_enter Try.func12, Try.ntmps12
  go_wp2_with fail
  refine hC.mono ?_
  rintro e _ ⟨rfl, rfl⟩
  go_wp2
  go_ret
  refine ⟨rfl, ?_⟩
  have hN := HN.out
  exact HT.out _ xv ⟨now, ts, b⟩ (Chg.set (.inl rfl) 2 _) ⟨by have := hN.blk.set_ 2 (.bool b); simpa using this, own_far hN.row (row_ne hN.row hN.blk (by decide)) _ _, hN.ok.now, hN.ok.len, hN.ok.ts⟩ (.inl rfl)
set_option maxRecDepth 100000 in
set_option maxHeartbeats 800000 in
/-- where a timer of a node stands -/
theorem cfind_any (id : Int) (x : NB) (w : World) (hN : NodeAt w x) :
    Calls Try.prog 26 #[.pointer (some ⟨x.b, 0, none⟩), .int .i64 id] w fun e w' => Below w.heap.size w w' ∧ ((e = .returned (.int .i64 (-1)) ∧ ¬ fidx id x.p.ts < x.p.ts.length) ∨ (fidx id x.p.ts < x.p.ts.length ∧ e = .returned (.int .i64 (fidx id x.p.ts : Int)))) := by
  obtain ⟨xb, xv, now, ts, pz⟩ := x
  obtain ⟨x0, x1, x2⟩ := hN.blk.c3
  obtain ⟨A, c, hv, hs⟩ := own_sl hN.row
  have hl := hN.ok.len
  have hlt := hN.blk.lt
  simp only at x0 x1 x2 hs hl hv hlt ⊢
  subst hv
  have hne : xb ≠ w.heap.size := by omega
  have hI := idxFid_any A ts.length c 0 w.heap.size ts (fun t => decide (t.1 = id)) w.heap.size (w.alloc (.cells #[.int .i64 id] 3)) (hs.alloc (by decide) _) (by omega) fun W t hW => fid_any id w.heap.size t W ((Blk.new w 3 #[.int .i64 id]).after hW) rfl
  have HI := Lib.hid hI
  have HL := Lib.hid (rfl : ts.length = ts.length)
  obtain ⟨n, hn⟩ : ∃ n, ts.length = n := ⟨_, rfl⟩
  rw [hn] at HI x1 hs ⊢
  have HNN := Lib.hid hn
  clear hI hN hs hl HL hn
  go_enter Try.func26, Try.ntmps26
  go_wp2_with fail
  refine HI.out.mono ?_
  rintro e w2 ⟨hb, hcase⟩
  have hb2 : Below w.heap.size w w2 := ((Below.refl _ w).alloc (Nat.le_refl _) _).trans (hb.mono (by simp))
  rcases hcase with ⟨rfl, hall⟩ | ⟨k, hk, rfl, ⟨t, ht, hpt⟩, hall⟩
  · go_wp2
    go_ret
    refine ⟨hb2, .inl ⟨rfl, ?_⟩⟩
    rw [← HNN.out]
    unfold fidx
    rw [List.findIdx_lt_length]
    rintro ⟨t, ht, h⟩
    rw [hall t ht] at h
    cases h
  · have hf : fidx id ts = k := by
      unfold fidx
      obtain ⟨h1, h2⟩ := List.getElem?_eq_some_iff.1 ht
      refine (List.findIdx_eq h1).2 ⟨by rw [h2]; exact hpt, fun j hj => hall j _ hj (List.getElem?_eq_getElem _)⟩
    have HF := Lib.hid hf
    clear hf hall
    go_wp2
    go_ret
    rw [HF.out]
    exact ⟨hb2, .inr ⟨hk, rfl⟩⟩
end
end Go.Proofs.Ytcocakbopbehjaa
