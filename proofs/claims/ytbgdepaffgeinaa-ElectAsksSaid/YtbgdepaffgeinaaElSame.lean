/- The law's same: a program's node and the document's, alike. -/
import Derived.Test.YtbgdepaffgeinaaElCmp2
import Derived.Test.YtbgdepaffgeinaaElRAsk
import Derived.Deep.MidRow
namespace Go.Proofs.Ytbgdepaffgeinaa
open Go.RowKit
set_option maxRecDepth 100000 in
set_option maxHeartbeats 3200000 in
theorem rsameL_any (base bt : Nat) (A B : Option Addr) (n c d lo hi lo' hi' : Nat) (es : List Ent) (w : World) (ha : Sl w lo hi 3 A n c (ecells es)) (hb : Sl w lo' hi' 3 B n d (ecells es)) (he : EData w es) :
    Calls Try.prog 56 #[.int .u64 (base : Int), .int .u64 (bt : Int), .slice A n c, .agg #[.int .u64 (base : Int), .int .u64 (bt : Int), .slice B n d]] w fun e w' => e = .returned (.bool true) ∧ Below w.heap.size w w' := by
  have HE := Lib.hid (entries_any A B n n c d lo hi lo' hi' es es (w.alloc (.cells #[.int .u64 (base : Int), .int .u64 (bt : Int), .slice B n d] 28)) (ha.alloc (by decide) _) (hb.alloc (by decide) _) (he.alloc _) (he.alloc _) rfl)
  clear ha hb he
  go_enter Try.func56, Try.ntmps56
  go_wp2_with fail
  refine HE.out.mono ?_
  rintro e _ ⟨rfl, qn, rfl⟩
  have B1 := (Blk.new w 28 #[.int .u64 (base : Int), .int .u64 (bt : Int), .slice B n d]).drewN qn
  obtain ⟨z0, z1, z2⟩ := B1.c3
  have D1 := below_drewN ((Below.refl _ w).alloc (Nat.le_refl _) (.cells #[.int .u64 (base : Int), .int .u64 (bt : Int), .slice B n d] 28)) qn
  generalize (w.alloc (.cells #[.int .u64 (base : Int), .int .u64 (bt : Int), .slice B n d] 28)).drewN qn = w1 at z0 z1 z2 D1 B1 ⊢
  clear B1
  go_wp2
  go_ret
  exact ⟨rfl, D1⟩
theorem exec_load_mid {P : Program} {op : Oper} {a : Act} {w : World} (ty : TypeId) (x : Operand) (ho : op.op = .load ty x) (b o : Nat) (hx : a.eval x = .pointer (some ⟨b, o, none⟩)) (cs : List Value) (d : TypeDesc) (hc : w.rangeAt b o cs)
    (hu : P.underlying ty = some d) (hd : d.isRow = true) (hi : (P.info? ty).map (·.size) = some cs.length) : (execOp a.eval op).run P w = .ok (.value (.agg cs.toArray)) w := by
  unfold execOp
  simp only [ho, hx, Instr.loadAt, Instr.sureAddr, Sem.run_bind, Sem.run_pure, Result.andThen_ok, run_loadVar_mid w b o ty cs d hc hu hd hi]
theorem want_pos {c : Bool} {A B : Prop} (h : c = true) (ha : A) : if c = true then A else B := by rw [if_pos h]; exact ha
section
variable {P : Program} {ops : Array Oper} {Q : Exit → Act → World → Prop} {md : Region.Mode} {S : World → Prop} {n : Nat}
theorem wpAnyE_one {i : Nat} {fuel : Nat} {listed : Array Bool} {a : Act} {w : World} (hr : Region.ready md ops listed = [i])
    (h : wpOp P ops Q i (fun a' w' => (i ≠ n → S w') ∧ wpAnyE P md ops Q S n fuel (listed.setIfInBounds i true) a' w') a w) : wpAnyE P md ops Q S n (fuel + 1) listed a w :=
  wpAnyE_all hr (by simp) fun j hj => by obtain rfl := List.mem_singleton.1 hj; exact h
theorem getElem_of_drop {i : Nat} {o : Oper} {rest : List Oper} (ho : ops.toList.drop i = o :: rest) : ops[i]? = some o := by
  rw [← Array.getElem?_toList]
  have h := congrArg List.head? ho
  rwa [List.head?_drop] at h
theorem wpOp_E2 {fuel : Nat} {listed : Array Bool} {a : Act} {w : World} {i : Nat} {o : Oper} {rest : List Oper} (hr : Region.ready md ops listed = [i]) (ho : ops.toList.drop i = o :: rest) (hw : Region.wanted o (yielded ops a.tmps) = true)
    (h : ∀ K' : Act → World → Prop, Hid (∀ a w, (i ≠ n → S w) → ((i ≠ n → S w) → wpAnyE P md ops Q S n fuel (listed.setIfInBounds i true) a w) → K' a w) → Oper.wp P o a w K' Q) :
    wpAnyE P md ops Q S n (fuel + 1) listed a w :=
  wpAnyE_one hr (wpOp_E (getElem_of_drop ho) (fun K' hK => want_pos hw (h K' hK)))
end
theorem Rd.sl {H : Nat} {w : World} {S : Nat → Prop} {g size n c : Nat} {A : Option Addr} {xs : List Value} (h : Rd H w S g size A n c xs) : Sl w 0 w.heap.size size A n c xs := h.1
section
variable {H H2 : Nat} {O S : Nat → Prop} {b g : Nat} {p : NP} {q : RQ} {x : ND}
set_option maxRecDepth 100000 in
set_option maxHeartbeats 12800000 in
theorem lsame_any (w : World) (hN : NodeP H w O b p x) (hR : RN H2 w S g q x) (hE : EData w x.es) :
    Calls Try.prog 36 #[.pointer (some ⟨b, 0, none⟩), .pointer (some ⟨g, 0, none⟩)] w fun e w' => e = .returned (.bool true) ∧ Below w.heap.size w w' := by
  obtain ⟨cA, cc, yv, eA, ec, er, nv, mv⟩ := p
  obtain ⟨rA, rc, sA, sc, tA, tc⟩ := q
  obtain ⟨yA, yc, hyv, hys⟩ := own_sl hN.yes
  obtain ⟨nA, nc, hnv, hns⟩ := own_sl hN.next
  obtain ⟨mA, mc, hmv, hms⟩ := own_sl hN.mt
  obtain ⟨cA', cc', hcv, hcs⟩ := own_sl hN.conf
  injection hcv with e1 e2 e3
  clear e2
  subst e1 e3
  simp only at hyv hnv hmv
  subst hyv hnv hmv
  have H1 : Hid (∀ W, Aft w W → Calls Try.prog 68 #[.int .i64 x.me, .int .i64 x.vote, .int .i64 x.role, .int .i64 x.lead, .slice yA x.yes.length yc, .int .u64 (x.term : Int), .int .u64 0, .bool x.heard, .pointer (some ⟨g, 0, none⟩)] W fun e w' => e = .returned (.bool true) ∧ Below W.heap.size W w') := fun W hW => rsameN_any yA yc 0 w.heap.size W (hR.after hW) (hys.after (by decide) hW)
  have H2 : Hid (∀ W, Aft w W → Calls Try.prog 56 #[.int .u64 (x.base : Int), .int .u64 (x.bt : Int), .slice eA x.es.length ec, .agg #[.int .u64 (x.base : Int), .int .u64 (x.bt : Int), .slice tA x.es.length tc]] W fun e w' => e = .returned (.bool true) ∧ Below W.heap.size W w') := fun W hW => rsameL_any x.base x.bt eA tA x.es.length ec tc er (er + 1) 0 w.heap.size x.es W (hN.es.after (by decide) hW) (hR.es.1.after (by decide) hW) (hE.after hW)
  have H3 : Hid (∀ W, Aft w W → Calls Try.prog 41 #[.slice cA x.conf.length cc, .slice rA x.conf.length rc] W fun e w' => e = .returned (.bool true) ∧ Below W.heap.size W w') := fun W hW => rnumbers_any cA x.conf.length cc 0 w.heap.size x.conf rA rc 0 w.heap.size W (hcs.after (by decide) hW) (hR.conf.1.after (by decide) hW)
  have H4 : Hid (∀ W, Aft w W → Calls Try.prog 69 #[.slice nA 16 nc, .agg (x.next.map uv).toArray] W fun e w' => e = .returned (.bool true) ∧ Below W.heap.size W w') := fun W hW => rlists_any nA nc 0 w.heap.size x.next W (hns.after (by decide) hW) rfl
  have H5 : Hid (∀ W, Aft w W → Calls Try.prog 69 #[.slice mA 16 mc, .agg (x.mt.map uv).toArray] W fun e w' => e = .returned (.bool true) ∧ Below W.heap.size W w') := fun W hW => rlists_any mA mc 0 w.heap.size x.mt W (hms.after (by decide) hW) rfl
  have x0 : w.cell? ⟨b, 0, none⟩ = some (.int .i64 x.me) := hN.blk.cell 0
  have x1 : w.cell? ⟨b, 1, none⟩ = some (.int .i64 x.vote) := hN.blk.cell 1
  have x2 : w.cell? ⟨b, 2, none⟩ = some (.int .i64 x.role) := hN.blk.cell 2
  have x3 : w.cell? ⟨b, 3, none⟩ = some (.int .i64 x.lead) := hN.blk.cell 3
  have x4 : w.cell? ⟨b, 4, none⟩ = some (.slice cA x.conf.length cc) := hN.blk.cell 4
  have x5 : w.cell? ⟨b, 5, none⟩ = some (.slice yA x.yes.length yc) := hN.blk.cell 5
  have x6 : w.cell? ⟨b, 6, none⟩ = some (.int .u64 (x.term : Int)) := hN.blk.cell 6
  have x7 : w.cell? ⟨b, 7, none⟩ = some (.int .u64 0) := hN.blk.cell 7
  have x8 : w.cell? ⟨b, 8, none⟩ = some (.int .u64 (x.base : Int)) := hN.blk.cell 8
  have x9 : w.cell? ⟨b, 9, none⟩ = some (.int .u64 (x.bt : Int)) := hN.blk.cell 9
  have x10 : w.cell? ⟨b, 10, none⟩ = some (.slice eA x.es.length ec) := hN.blk.cell 10
  have x11 : w.cell? ⟨b, 11, none⟩ = some (.bool x.heard) := hN.blk.cell 11
  have x12 : w.cell? ⟨b, 12, none⟩ = some (.slice nA 16 nc) := hN.blk.cell 12
  have x13 : w.cell? ⟨b, 13, none⟩ = some (.slice mA 16 mc) := hN.blk.cell 13
  have y4 : w.cell? ⟨g, 4, none⟩ = some (.slice rA x.conf.length rc) := hR.c rfl
  have y8 : w.cell? ⟨g, 8, none⟩ = some (.int .u64 (x.base : Int)) := hR.c rfl
  have y9 : w.cell? ⟨g, 9, none⟩ = some (.int .u64 (x.bt : Int)) := hR.c rfl
  have y10 : w.cell? ⟨g, 10, none⟩ = some (.slice tA x.es.length tc) := hR.c rfl
  have HX : Hid (∀ W, Aft w W → (W.cell? ⟨b, 4, none⟩ = some (.slice cA x.conf.length cc) ∧ W.cell? ⟨b, 12, none⟩ = some (.slice nA 16 nc) ∧ W.cell? ⟨b, 13, none⟩ = some (.slice mA 16 mc) ∧ W.cell? ⟨g, 4, none⟩ = some (.slice rA x.conf.length rc) ∧ W.rangeAt g 12 (x.next.map uv) ∧ W.rangeAt g 28 (x.mt.map uv))) := fun W hW => by
    have hRW := hR.after hW
    refine ⟨cell_below hW x4, cell_below hW x12, cell_below hW x13, cell_below hW y4, fun j v hv => hRW.c ?_, fun j v hv => hRW.c ?_⟩
    · unfold RQ.cells
      rw [List.getElem?_append_right (by rw [RQ.head_len]; omega), RQ.head_len, List.getElem?_append_left (by have := (List.getElem?_eq_some_iff.1 hv).1; omega), show 12 + j - 12 = j by omega]
      exact hv
    · unfold RQ.cells
      rw [List.getElem?_append_right (by rw [RQ.head_len]; omega), RQ.head_len, List.getElem?_append_right (by rw [List.length_map, hR.n16]; omega), List.length_map, hR.n16, show 28 + j - 12 - 16 = j by omega]
      exact hv
  have HY : Hid (∀ W, Aft w W → (W.cell? ⟨b, 8, none⟩ = some (.int .u64 (x.base : Int)) ∧ W.cell? ⟨b, 9, none⟩ = some (.int .u64 (x.bt : Int)) ∧ W.cell? ⟨b, 10, none⟩ = some (.slice eA x.es.length ec) ∧ W.cell? ⟨g, 8, none⟩ = some (.int .u64 (x.base : Int)) ∧ W.cell? ⟨g, 9, none⟩ = some (.int .u64 (x.bt : Int)) ∧ W.cell? ⟨g, 10, none⟩ = some (.slice tA x.es.length tc))) := fun W hW => ⟨cell_below hW x8, cell_below hW x9, cell_below hW x10, cell_below hW y8, cell_below hW y9, cell_below hW y10⟩
  have HZ : Hid (∀ W, Aft w W → (W.cell? ⟨b, 0, none⟩ = some (.int .i64 x.me) ∧ W.cell? ⟨b, 1, none⟩ = some (.int .i64 x.vote) ∧ W.cell? ⟨b, 2, none⟩ = some (.int .i64 x.role) ∧ W.cell? ⟨b, 3, none⟩ = some (.int .i64 x.lead) ∧ W.cell? ⟨b, 5, none⟩ = some (.slice yA x.yes.length yc) ∧ W.cell? ⟨b, 6, none⟩ = some (.int .u64 (x.term : Int)) ∧ W.cell? ⟨b, 7, none⟩ = some (.int .u64 0) ∧ W.cell? ⟨b, 11, none⟩ = some (.bool x.heard))) := fun W hW => ⟨cell_below hW x0, cell_below hW x1, cell_below hW x2, cell_below hW x3, cell_below hW x5, cell_below hW x6, cell_below hW x7, cell_below hW x11⟩
  have hn16 : 16 = (x.next.map uv).length := by rw [List.length_map]; exact hR.n16.symm
  have hm16 : 16 = (x.mt.map uv).length := by rw [List.length_map]; exact hR.m16.symm
  have hu : Try.prog.underlying 96 = some (.array 16 22) := Try.underlying96
  have hi1 : (Try.prog.info? 96).map (·.size) = some (x.next.map uv).length := by rw [← hn16]; kernel_rfl
  have hi2 : (Try.prog.info? 96).map (·.size) = some (x.mt.map uv).length := by rw [← hm16]; kernel_rfl
  have ha0 : Aft w w.drew := (Aft.refl w).drew
  clear hN hR hE hys hns hms hcs x4 x8 x9 x10 x12 x13 y4 y8 y9 y10 hn16 hm16
  go_enter Try.func36, Try.ntmps36
  go_wp2_with fail
  go_region_held3 (fun W => W.cell? ⟨b, 0, none⟩ = some (.int .i64 x.me) ∧ W.cell? ⟨b, 1, none⟩ = some (.int .i64 x.vote) ∧ W.cell? ⟨b, 2, none⟩ = some (.int .i64 x.role) ∧ W.cell? ⟨b, 3, none⟩ = some (.int .i64 x.lead) ∧ W.cell? ⟨b, 5, none⟩ = some (.slice yA x.yes.length yc) ∧ W.cell? ⟨b, 6, none⟩ = some (.int .u64 (x.term : Int)) ∧ W.cell? ⟨b, 7, none⟩ = some (.int .u64 0) ∧ W.cell? ⟨b, 11, none⟩ = some (.bool x.heard)) (first | (with_reducible exact HZ.out _ ha1) | (with_reducible exact HZ.out _ ha0)) (first
    | (go_at_call 68; refine (H1.out _ ha0).mono ?_; rintro e w1 ⟨rfl, hb1⟩; have ha1 : Aft w w1 := Aft.call ha0 hb1))
  clear x0 x1 x2 x3 x5 x6 x7 x11 hb1
  go_wp2_with fail
  have ha1' : Aft w w1.drew := ha1.drew
  go_region_held3 (fun W => W.cell? ⟨b, 8, none⟩ = some (.int .u64 (x.base : Int)) ∧ W.cell? ⟨b, 9, none⟩ = some (.int .u64 (x.bt : Int)) ∧ W.cell? ⟨b, 10, none⟩ = some (.slice eA x.es.length ec) ∧ W.cell? ⟨g, 8, none⟩ = some (.int .u64 (x.base : Int)) ∧ W.cell? ⟨g, 9, none⟩ = some (.int .u64 (x.bt : Int)) ∧ W.cell? ⟨g, 10, none⟩ = some (.slice tA x.es.length tc)) (first | (with_reducible exact HY.out _ ha2) | (with_reducible exact HY.out _ ha1')) (first
    | (go_at_call 56; refine (H2.out _ ha1').mono ?_; rintro e w2 ⟨rfl, hb2⟩; have ha2 : Aft w w2 := Aft.call ha1' hb2))
  clear hb2
  go_wp2_with fail
  have ha2' : Aft w w2.drew := ha2.drew
  have S0 := HX.out _ ha2'
  refine wp_region_E (S := fun W => W.cell? ⟨b, 4, none⟩ = some (.slice cA x.conf.length cc) ∧ W.cell? ⟨b, 12, none⟩ = some (.slice nA 16 nc) ∧ W.cell? ⟨b, 13, none⟩ = some (.slice mA 16 mc) ∧ W.cell? ⟨g, 4, none⟩ = some (.slice rA x.conf.length rc) ∧ W.rangeAt g 12 (x.next.map uv) ∧ W.rangeAt g 28 (x.mt.map uv)) (n := 37) (by kernel_rfl) ?_
  refine wpAnyE_take (n := 37) (i := 0) (v := (.bool true)) rfl (by kernel_rfl) (by kernel_rfl) (by kernel_rfl) (by kernel_rfl) (by decide) (fun _ _ _ h => h) (by kernel_rfl) (by rintro W ⟨s0, s1, s2, s3, s4, s5⟩; go_simp) S0 ?_
  try simp only [Act.put, List.setIfInBounds_toArray, List.set_cons_zero, List.set_cons_succ]
  refine wpAnyE_take (n := 37) (i := 1) (v := (.bool true)) rfl (by kernel_rfl) (by kernel_rfl) (by kernel_rfl) (by kernel_rfl) (by decide) (fun _ _ _ h => h) (by kernel_rfl) (by rintro W ⟨s0, s1, s2, s3, s4, s5⟩; go_simp) S0 ?_
  try simp only [Act.put, List.setIfInBounds_toArray, List.set_cons_zero, List.set_cons_succ]
  refine wpAnyE_take (n := 37) (i := 2) (v := (.bool true)) rfl (by kernel_rfl) (by kernel_rfl) (by kernel_rfl) (by kernel_rfl) (by decide) (fun _ _ _ h => h) (by kernel_rfl) (by rintro W ⟨s0, s1, s2, s3, s4, s5⟩; go_simp) S0 ?_
  try simp only [Act.put, List.setIfInBounds_toArray, List.set_cons_zero, List.set_cons_succ]
  refine wpAnyE_take (n := 37) (i := 3) (v := (.bool true)) rfl (by kernel_rfl) (by kernel_rfl) (by kernel_rfl) (by kernel_rfl) (by decide) (fun _ _ _ h => h) (by kernel_rfl) (by rintro W ⟨s0, s1, s2, s3, s4, s5⟩; go_simp) S0 ?_
  try simp only [Act.put, List.setIfInBounds_toArray, List.set_cons_zero, List.set_cons_succ]
  refine wpAnyE_take (n := 37) (i := 4) (v := (.bool true)) rfl (by kernel_rfl) (by kernel_rfl) (by kernel_rfl) (by kernel_rfl) (by decide) (fun _ _ _ h => h) (by kernel_rfl) (by rintro W ⟨s0, s1, s2, s3, s4, s5⟩; go_simp) S0 ?_
  try simp only [Act.put, List.setIfInBounds_toArray, List.set_cons_zero, List.set_cons_succ]
  refine wpAnyE_take (n := 37) (i := 5) (v := (.pointer (some ⟨b, 0, none⟩))) rfl (by kernel_rfl) (by kernel_rfl) (by kernel_rfl) (by kernel_rfl) (by decide) (fun _ _ _ h => h) (by kernel_rfl) (by rintro W ⟨s0, s1, s2, s3, s4, s5⟩; go_simp) S0 ?_
  try simp only [Act.put, List.setIfInBounds_toArray, List.set_cons_zero, List.set_cons_succ]
  refine wpAnyE_take (n := 37) (i := 6) (v := (.pointer (some ⟨b, 0, none⟩))) rfl (by kernel_rfl) (by kernel_rfl) (by kernel_rfl) (by kernel_rfl) (by decide) (fun _ _ _ h => h) (by kernel_rfl) (by rintro W ⟨s0, s1, s2, s3, s4, s5⟩; go_simp) S0 ?_
  try simp only [Act.put, List.setIfInBounds_toArray, List.set_cons_zero, List.set_cons_succ]
  refine wpAnyE_take (n := 37) (i := 7) (v := (.pointer (some ⟨b, 4, none⟩))) rfl (by kernel_rfl) (by kernel_rfl) (by kernel_rfl) (by kernel_rfl) (by decide) (fun _ _ _ h => h) (by kernel_rfl) (by rintro W ⟨s0, s1, s2, s3, s4, s5⟩; go_simp) S0 ?_
  try simp only [Act.put, List.setIfInBounds_toArray, List.set_cons_zero, List.set_cons_succ]
  refine wpAnyE_take (n := 37) (i := 8) (v := (.slice cA x.conf.length cc)) rfl (by kernel_rfl) (by kernel_rfl) (by kernel_rfl) (by kernel_rfl) (by decide) (fun _ _ _ h => h) (by kernel_rfl) (by rintro W ⟨s0, s1, s2, s3, s4, s5⟩; go_simp) S0 ?_
  try simp only [Act.put, List.setIfInBounds_toArray, List.set_cons_zero, List.set_cons_succ]
  refine wpAnyE_take (n := 37) (i := 9) (v := (.pointer (some ⟨g, 0, none⟩))) rfl (by kernel_rfl) (by kernel_rfl) (by kernel_rfl) (by kernel_rfl) (by decide) (fun _ _ _ h => h) (by kernel_rfl) (by rintro W ⟨s0, s1, s2, s3, s4, s5⟩; go_simp) S0 ?_
  try simp only [Act.put, List.setIfInBounds_toArray, List.set_cons_zero, List.set_cons_succ]
  refine wpAnyE_take (n := 37) (i := 10) (v := (.pointer (some ⟨g, 0, none⟩))) rfl (by kernel_rfl) (by kernel_rfl) (by kernel_rfl) (by kernel_rfl) (by decide) (fun _ _ _ h => h) (by kernel_rfl) (by rintro W ⟨s0, s1, s2, s3, s4, s5⟩; go_simp) S0 ?_
  try simp only [Act.put, List.setIfInBounds_toArray, List.set_cons_zero, List.set_cons_succ]
  refine wpAnyE_take (n := 37) (i := 11) (v := (.pointer (some ⟨g, 4, none⟩))) rfl (by kernel_rfl) (by kernel_rfl) (by kernel_rfl) (by kernel_rfl) (by decide) (fun _ _ _ h => h) (by kernel_rfl) (by rintro W ⟨s0, s1, s2, s3, s4, s5⟩; go_simp) S0 ?_
  try simp only [Act.put, List.setIfInBounds_toArray, List.set_cons_zero, List.set_cons_succ]
  refine wpAnyE_take (n := 37) (i := 12) (v := (.slice rA x.conf.length rc)) rfl (by kernel_rfl) (by kernel_rfl) (by kernel_rfl) (by kernel_rfl) (by decide) (fun _ _ _ h => h) (by kernel_rfl) (by rintro W ⟨s0, s1, s2, s3, s4, s5⟩; go_simp) S0 ?_
  try simp only [Act.put, List.setIfInBounds_toArray, List.set_cons_zero, List.set_cons_succ]
  refine wpOp_E2 (i := 13) (by kernel_rfl) rfl (by kernel_rfl) (fun K' hK => ?_)
  go_simp
  go_at_call 41
  refine (H3.out _ ha2').mono ?_
  rintro e w3 ⟨rfl, hb3⟩
  have ha3 : Aft w w3 := Aft.call ha2' hb3
  have S3 := HX.out _ ha3
  refine hK.out _ _ (fun _ => S3) (fun _ => ?_)
  clear hK hb3
  try simp only [Act.put, List.setIfInBounds_toArray, List.set_cons_zero, List.set_cons_succ]
  refine wpAnyE_take (n := 37) (i := 14) (v := (.bool true)) rfl (by kernel_rfl) (by kernel_rfl) (by kernel_rfl) (by kernel_rfl) (by decide) (fun _ _ _ h => h) (by kernel_rfl) (by rintro W ⟨s0, s1, s2, s3, s4, s5⟩; go_simp) S3 ?_
  try simp only [Act.put, List.setIfInBounds_toArray, List.set_cons_zero, List.set_cons_succ]
  refine wpAnyE_take (n := 37) (i := 15) (v := (.bool true)) rfl (by kernel_rfl) (by kernel_rfl) (by kernel_rfl) (by kernel_rfl) (by decide) (fun _ _ _ h => h) (by kernel_rfl) (by rintro W ⟨s0, s1, s2, s3, s4, s5⟩; go_simp) S3 ?_
  try simp only [Act.put, List.setIfInBounds_toArray, List.set_cons_zero, List.set_cons_succ]
  refine wpAnyE_take (n := 37) (i := 16) (v := (.pointer (some ⟨b, 0, none⟩))) rfl (by kernel_rfl) (by kernel_rfl) (by kernel_rfl) (by kernel_rfl) (by decide) (fun _ _ _ h => h) (by kernel_rfl) (by rintro W ⟨s0, s1, s2, s3, s4, s5⟩; go_simp) S3 ?_
  try simp only [Act.put, List.setIfInBounds_toArray, List.set_cons_zero, List.set_cons_succ]
  refine wpAnyE_take (n := 37) (i := 17) (v := (.pointer (some ⟨b, 0, none⟩))) rfl (by kernel_rfl) (by kernel_rfl) (by kernel_rfl) (by kernel_rfl) (by decide) (fun _ _ _ h => h) (by kernel_rfl) (by rintro W ⟨s0, s1, s2, s3, s4, s5⟩; go_simp) S3 ?_
  try simp only [Act.put, List.setIfInBounds_toArray, List.set_cons_zero, List.set_cons_succ]
  refine wpAnyE_take (n := 37) (i := 18) (v := (.pointer (some ⟨b, 12, none⟩))) rfl (by kernel_rfl) (by kernel_rfl) (by kernel_rfl) (by kernel_rfl) (by decide) (fun _ _ _ h => h) (by kernel_rfl) (by rintro W ⟨s0, s1, s2, s3, s4, s5⟩; go_simp) S3 ?_
  try simp only [Act.put, List.setIfInBounds_toArray, List.set_cons_zero, List.set_cons_succ]
  refine wpAnyE_take (n := 37) (i := 19) (v := (.slice nA 16 nc)) rfl (by kernel_rfl) (by kernel_rfl) (by kernel_rfl) (by kernel_rfl) (by decide) (fun _ _ _ h => h) (by kernel_rfl) (by rintro W ⟨s0, s1, s2, s3, s4, s5⟩; go_simp) S3 ?_
  try simp only [Act.put, List.setIfInBounds_toArray, List.set_cons_zero, List.set_cons_succ]
  refine wpAnyE_take (n := 37) (i := 20) (v := (.pointer (some ⟨g, 0, none⟩))) rfl (by kernel_rfl) (by kernel_rfl) (by kernel_rfl) (by kernel_rfl) (by decide) (fun _ _ _ h => h) (by kernel_rfl) (by rintro W ⟨s0, s1, s2, s3, s4, s5⟩; go_simp) S3 ?_
  try simp only [Act.put, List.setIfInBounds_toArray, List.set_cons_zero, List.set_cons_succ]
  refine wpAnyE_take (n := 37) (i := 21) (v := (.pointer (some ⟨g, 0, none⟩))) rfl (by kernel_rfl) (by kernel_rfl) (by kernel_rfl) (by kernel_rfl) (by decide) (fun _ _ _ h => h) (by kernel_rfl) (by rintro W ⟨s0, s1, s2, s3, s4, s5⟩; go_simp) S3 ?_
  try simp only [Act.put, List.setIfInBounds_toArray, List.set_cons_zero, List.set_cons_succ]
  refine wpAnyE_take (n := 37) (i := 22) (v := (.pointer (some ⟨g, 12, none⟩))) rfl (by kernel_rfl) (by kernel_rfl) (by kernel_rfl) (by kernel_rfl) (by decide) (fun _ _ _ h => h) (by kernel_rfl) (by rintro W ⟨s0, s1, s2, s3, s4, s5⟩; go_simp) S3 ?_
  try simp only [Act.put, List.setIfInBounds_toArray, List.set_cons_zero, List.set_cons_succ]
  refine wpAnyE_take (n := 37) (i := 23) (v := (.agg (x.next.map uv).toArray)) rfl (by kernel_rfl) (by kernel_rfl) (by kernel_rfl) (by kernel_rfl) (by decide) (fun _ _ _ h => h) (by kernel_rfl) (fun W sW => exec_load_mid 96 (.tmp 83) (by kernel_rfl) g 12 (by kernel_rfl) (x.next.map uv) (.array 16 22) (sW.2.2.2.2.1) hu (by kernel_rfl) hi1) S3 ?_
  try simp only [Act.put, List.setIfInBounds_toArray, List.set_cons_zero, List.set_cons_succ]
  refine wpOp_E2 (i := 24) (by kernel_rfl) rfl (by kernel_rfl) (fun K' hK => ?_)
  go_simp
  go_at_call 69
  refine (H4.out _ ha3).mono ?_
  rintro e w4 ⟨rfl, hb4⟩
  have ha4 : Aft w w4 := Aft.call ha3 hb4
  have S4 := HX.out _ ha4
  refine hK.out _ _ (fun _ => S4) (fun _ => ?_)
  clear hK hb4
  try simp only [Act.put, List.setIfInBounds_toArray, List.set_cons_zero, List.set_cons_succ]
  refine wpAnyE_take (n := 37) (i := 25) (v := (.bool true)) rfl (by kernel_rfl) (by kernel_rfl) (by kernel_rfl) (by kernel_rfl) (by decide) (fun _ _ _ h => h) (by kernel_rfl) (by rintro W ⟨s0, s1, s2, s3, s4, s5⟩; go_simp) S4 ?_
  try simp only [Act.put, List.setIfInBounds_toArray, List.set_cons_zero, List.set_cons_succ]
  refine wpAnyE_take (n := 37) (i := 26) (v := (.bool true)) rfl (by kernel_rfl) (by kernel_rfl) (by kernel_rfl) (by kernel_rfl) (by decide) (fun _ _ _ h => h) (by kernel_rfl) (by rintro W ⟨s0, s1, s2, s3, s4, s5⟩; go_simp) S4 ?_
  try simp only [Act.put, List.setIfInBounds_toArray, List.set_cons_zero, List.set_cons_succ]
  refine wpAnyE_take (n := 37) (i := 27) (v := (.pointer (some ⟨b, 0, none⟩))) rfl (by kernel_rfl) (by kernel_rfl) (by kernel_rfl) (by kernel_rfl) (by decide) (fun _ _ _ h => h) (by kernel_rfl) (by rintro W ⟨s0, s1, s2, s3, s4, s5⟩; go_simp) S4 ?_
  try simp only [Act.put, List.setIfInBounds_toArray, List.set_cons_zero, List.set_cons_succ]
  refine wpAnyE_take (n := 37) (i := 28) (v := (.pointer (some ⟨b, 0, none⟩))) rfl (by kernel_rfl) (by kernel_rfl) (by kernel_rfl) (by kernel_rfl) (by decide) (fun _ _ _ h => h) (by kernel_rfl) (by rintro W ⟨s0, s1, s2, s3, s4, s5⟩; go_simp) S4 ?_
  try simp only [Act.put, List.setIfInBounds_toArray, List.set_cons_zero, List.set_cons_succ]
  refine wpAnyE_take (n := 37) (i := 29) (v := (.pointer (some ⟨b, 13, none⟩))) rfl (by kernel_rfl) (by kernel_rfl) (by kernel_rfl) (by kernel_rfl) (by decide) (fun _ _ _ h => h) (by kernel_rfl) (by rintro W ⟨s0, s1, s2, s3, s4, s5⟩; go_simp) S4 ?_
  try simp only [Act.put, List.setIfInBounds_toArray, List.set_cons_zero, List.set_cons_succ]
  refine wpAnyE_take (n := 37) (i := 30) (v := (.slice mA 16 mc)) rfl (by kernel_rfl) (by kernel_rfl) (by kernel_rfl) (by kernel_rfl) (by decide) (fun _ _ _ h => h) (by kernel_rfl) (by rintro W ⟨s0, s1, s2, s3, s4, s5⟩; go_simp) S4 ?_
  try simp only [Act.put, List.setIfInBounds_toArray, List.set_cons_zero, List.set_cons_succ]
  refine wpAnyE_take (n := 37) (i := 31) (v := (.pointer (some ⟨g, 0, none⟩))) rfl (by kernel_rfl) (by kernel_rfl) (by kernel_rfl) (by kernel_rfl) (by decide) (fun _ _ _ h => h) (by kernel_rfl) (by rintro W ⟨s0, s1, s2, s3, s4, s5⟩; go_simp) S4 ?_
  try simp only [Act.put, List.setIfInBounds_toArray, List.set_cons_zero, List.set_cons_succ]
  refine wpAnyE_take (n := 37) (i := 32) (v := (.pointer (some ⟨g, 0, none⟩))) rfl (by kernel_rfl) (by kernel_rfl) (by kernel_rfl) (by kernel_rfl) (by decide) (fun _ _ _ h => h) (by kernel_rfl) (by rintro W ⟨s0, s1, s2, s3, s4, s5⟩; go_simp) S4 ?_
  try simp only [Act.put, List.setIfInBounds_toArray, List.set_cons_zero, List.set_cons_succ]
  refine wpAnyE_take (n := 37) (i := 33) (v := (.pointer (some ⟨g, 28, none⟩))) rfl (by kernel_rfl) (by kernel_rfl) (by kernel_rfl) (by kernel_rfl) (by decide) (fun _ _ _ h => h) (by kernel_rfl) (by rintro W ⟨s0, s1, s2, s3, s4, s5⟩; go_simp) S4 ?_
  try simp only [Act.put, List.setIfInBounds_toArray, List.set_cons_zero, List.set_cons_succ]
  refine wpAnyE_take (n := 37) (i := 34) (v := (.agg (x.mt.map uv).toArray)) rfl (by kernel_rfl) (by kernel_rfl) (by kernel_rfl) (by kernel_rfl) (by decide) (fun _ _ _ h => h) (by kernel_rfl) (fun W sW => exec_load_mid 96 (.tmp 94) (by kernel_rfl) g 28 (by kernel_rfl) (x.mt.map uv) (.array 16 22) (sW.2.2.2.2.2) hu (by kernel_rfl) hi2) S4 ?_
  try simp only [Act.put, List.setIfInBounds_toArray, List.set_cons_zero, List.set_cons_succ]
  refine wpOp_E2 (i := 35) (by kernel_rfl) rfl (by kernel_rfl) (fun K' hK => ?_)
  go_simp
  go_at_call 69
  refine (H5.out _ ha4).mono ?_
  rintro e w5 ⟨rfl, hb5⟩
  have ha5 : Aft w w5 := Aft.call ha4 hb5
  have S5 := HX.out _ ha5
  refine hK.out _ _ (fun _ => S5) (fun _ => ?_)
  clear hK hb5
  try simp only [Act.put, List.setIfInBounds_toArray, List.set_cons_zero, List.set_cons_succ]
  refine wpAnyE_take (n := 37) (i := 36) (v := (.bool true)) rfl (by kernel_rfl) (by kernel_rfl) (by kernel_rfl) (by kernel_rfl) (by decide) (fun _ _ _ h => h) (by kernel_rfl) (by rintro W ⟨s0, s1, s2, s3, s4, s5⟩; go_simp) S5 ?_
  try simp only [Act.put, List.setIfInBounds_toArray, List.set_cons_zero, List.set_cons_succ]
  refine wpOp_E2 (i := 37) (by kernel_rfl) rfl (by kernel_rfl) (fun K' hK => ?_)
  go_simp
  refine hK.out _ _ (fun h => absurd rfl h) (fun _ => ?_)
  clear hK
  try simp only [Act.put, List.setIfInBounds_toArray, List.set_cons_zero, List.set_cons_succ]
  refine wpAnyE_done (by kernel_rfl) ?_ _
  go_wp2_with fail
  go_ret
  exact ⟨rfl, ha5⟩
end
end Go.Proofs.Ytbgdepaffgeinaa
