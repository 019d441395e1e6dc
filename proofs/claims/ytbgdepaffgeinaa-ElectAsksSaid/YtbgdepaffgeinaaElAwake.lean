/- The chapter's examples of who leads are true. -/
import Derived.Test.YtbgdepaffgeinaaElPlayX
import Derived.Test.YtbgdepaffgeinaaElBegun
namespace Go.Proofs.Ytbgdepaffgeinaa
open Go.RowKit
section
variable {H : Nat} {w : World} {g : Nat} {r : GR} {xs : List GN} {G : GP}
theorem GrpP.nrow (h : GrpP H w g r xs G) (h0 : 0 < G.nodes.length) : ∃ bn c, r.nv = .slice (some ⟨bn, 0, none⟩) G.nodes.length c ∧ G.nodes.length ≤ c ∧ c ≤ 9223372036854775807 ∧ ∀ i x, G.nodes[i]? = some x → ∃ b p O, w.cell? ⟨bn, i, none⟩ = some (.pointer (some ⟨b, 0, none⟩)) ∧ NodeP H w O b p x := by
  obtain ⟨bn, c, hv, _, _, hs⟩ := own_at h.nodes (by rw [h.len]; exact h0)
  rw [h.len] at hv hs
  refine ⟨bn, c, hv, hs.cap, hs.max, fun i x hi => ?_⟩
  obtain ⟨y, hy, rfl⟩ := h.nodeAt hi
  obtain ⟨ad, e, _, _, hc⟩ := hs.at_ h0
  injection e with e
  subst e
  refine ⟨y.b, y.p, y.O, ?_, h.node y (List.mem_of_getElem? hy)⟩
  have := hc i y.ptr (by rw [List.getElem?_map, hy]; rfl)
  rw [addr0] at this
  exact this
theorem GrpP.mrow_ (h : GrpP H w g r xs G) (h0 : 0 < G.msgs.length) : ∃ bm c, r.mv = .slice (some ⟨bm, 0, none⟩) G.msgs.length c ∧ G.msgs.length ≤ c ∧ c ≤ 9223372036854775807 ∧ ∀ k m, G.msgs[k]? = some m → ∀ j u, m.cells[j]? = some u → w.cell? ⟨bm, k * 10 + j, none⟩ = some u := by
  obtain ⟨bm, c, hv, _, _, hs⟩ := own_at h.msgs h0
  exact ⟨bm, c, hv, hs.cap, hs.max, fun k m hk j u hu => hs.own_msg hk hu⟩
end
def gp0 : GP := gpOf 3 (fun _ => []) 3
set_option maxRecDepth 100000 in
set_option maxHeartbeats 6400000 in
theorem awake11_any (w : World) : Calls Try.prog 31 #[] w fun e w' => e = .returned (.bool true) ∧ Below w.heap.size w w' := by
  go_enter Try.func31, Try.ntmps31
  go_wp2_with fail
  refine (begun_any 3 none 0 0 [] w (by omega) ⟨⟨0, 0, Sl.nil_ _ _ _ _⟩, fun v hv => by cases hv⟩).mono ?_
  rintro e w1 ⟨hb1, h | ⟨_, _, _, H, g, r1, xs1, E, rfl, hH, hE, hG0⟩⟩
  · exact absurd ⟨by omega, by omega, by omega⟩ h.1
  have hEE : E = fun _ => [] := funext fun i => hE.none_ i (Nat.zero_le _)
  subst hEE
  have hF0 : gp0.Fine 0 := fine_begun hE (by omega)
  have hG0 : GrpP H w1 g r1 xs1 gp0 := hG0
  have HB1 := Lib.hid hb1
  have HH := Lib.hid hH
  have HG0 := Lib.hid hG0
  have HF0 := Lib.hid hF0
  clear hb1 hH hE hG0 hF0
  go_wp2_with fail
  refine (play_any 0 1 0 w1 HG0.out HF0.out (by omega)).mono ?_
  rintro e w2 ⟨rfl, ⟨r2, xs2, hG1⟩, hb2⟩
  have hF1 := fine_play HF0.out 1 0
  obtain ⟨G1, hE1⟩ : ∃ G1, gp0.play 1 0 = G1 := ⟨_, rfl⟩
  have l1 : G1.msgs.length = 2 := by rw [← hE1]; rfl
  obtain ⟨m1, q1, k1, d1, t1⟩ : ∃ m : Ms, G1.msgs[0]? = some m ∧ m.kind = 3 ∧ m.dst = 1 ∧ m.term = 1 := by rw [← hE1]; exact ⟨_, rfl, rfl, rfl, rfl⟩
  rw [hE1] at hG1 hF1
  have HE1 := Lib.hid hE1
  have HG1 := Lib.hid hG1
  have HF1 := Lib.hid hF1
  have HB2 := Lib.hid hb2
  obtain ⟨bm1, cm1, hv1, hl1, hx1, hc1⟩ := hG1.mrow_ (by omega)
  have x1 : w2.cell? ⟨g, 1, none⟩ = some r2.mv := hG1.blk.cell 1
  have y0 := hc1 0 m1 q1 0 _ rfl
  have y2 := hc1 0 m1 q1 2 _ rfl
  have y3 := hc1 0 m1 q1 3 _ rfl
  rw [hv1, l1] at x1
  rw [k1] at y0
  rw [d1] at y2
  rw [t1] at y3
  rw [l1] at hl1
  simp only [Nat.zero_mul, Nat.zero_add] at y0 y2 y3
  clear hE1 hG1 hF1 hb2 hv1 hc1 q1 k1 d1 t1 l1
  go_wp2_with fail
  refine (play_any 1 3 0 w2 HG1.out HF1.out (by omega)).mono ?_
  rintro e w3 ⟨rfl, ⟨r3, xs3, hG⟩, hb⟩
  have hF := fine_play HF1.out 3 0
  obtain ⟨G2, hE⟩ : ∃ X, G1.play 3 0 = X := ⟨_, rfl⟩
  rw [hE] at hG hF
  have HE2 := Lib.hid hE
  have HG2 := Lib.hid hG
  have HF2 := Lib.hid hF
  have HB3 := Lib.hid hb
  have l2 : G2.msgs.length = 3 := by rw [← HE2.out, ← HE1.out]; rfl
  have ln2 : G2.nodes.length = 3 := by rw [← HE2.out, ← HE1.out]; rfl
  obtain ⟨m2, q2, k2, d2⟩ : ∃ m : Ms, G2.msgs[2]? = some m ∧ m.kind = 4 ∧ m.ok = true := by rw [← HE2.out, ← HE1.out]; exact ⟨_, rfl, rfl, rfl⟩
  obtain ⟨n2, p2, t2⟩ : ∃ n : ND, G2.nodes[1]? = some n ∧ n.term = 0 := by rw [← HE2.out, ← HE1.out]; exact ⟨_, rfl, rfl⟩
  obtain ⟨bm2, cm2, hv2, hl2, hx2, hc2⟩ := hG.mrow_ (by omega)
  obtain ⟨bn2, cn2, hn2, hln2, hxn2, hcn2⟩ := hG.nrow (by omega)
  obtain ⟨b2, P2, O2, z0, hN2⟩ := hcn2 1 n2 p2
  have x1 : w3.cell? ⟨g, 1, none⟩ = some r3.mv := hG.blk.cell 1
  have x0 : w3.cell? ⟨g, 0, none⟩ = some r3.nv := hG.blk.cell 0
  have y0 := hc2 2 m2 q2 0 _ rfl
  have y7 := hc2 2 m2 q2 7 _ rfl
  have z6 : w3.cell? ⟨b2, 6, none⟩ = some (.int .u64 (n2.term : Int)) := hN2.blk.cell 6
  rw [hv2, l2] at x1
  rw [hn2, ln2] at x0
  rw [k2] at y0
  rw [d2] at y7
  rw [t2] at z6
  rw [l2] at hl2
  rw [ln2] at hln2
  simp only [Nat.reduceMul, Nat.reduceAdd] at y0 y7
  clear hE hG hF hb hv2 hc2 q2 k2 d2 l2 ln2 hn2 hcn2 hN2 p2 t2
  go_wp2_with fail
  refine (play_any 2 3 2 w3 HG2.out HF2.out (by omega)).mono ?_
  rintro e w4 ⟨rfl, ⟨r4, xs4, hG⟩, hb⟩
  have hF := fine_play HF2.out 3 2
  obtain ⟨G3, hE⟩ : ∃ X, G2.play 3 2 = X := ⟨_, rfl⟩
  rw [hE] at hG hF
  have HE3 := Lib.hid hE
  have HG3 := Lib.hid hG
  have HF3 := Lib.hid hF
  have HB4 := Lib.hid hb
  have l3 : G3.msgs.length = 5 := by rw [← HE3.out, ← HE2.out, ← HE1.out]; rfl
  have ln3 : G3.nodes.length = 3 := by rw [← HE3.out, ← HE2.out, ← HE1.out]; rfl
  obtain ⟨m3, q3, k3⟩ : ∃ m : Ms, G3.msgs[3]? = some m ∧ m.kind = 1 := by rw [← HE3.out, ← HE2.out, ← HE1.out]; exact ⟨_, rfl, rfl⟩
  obtain ⟨n3, p3, t3⟩ : ∃ n : ND, G3.nodes[0]? = some n ∧ n.role = 2 := by rw [← HE3.out, ← HE2.out, ← HE1.out]; exact ⟨_, rfl, rfl⟩
  obtain ⟨bm3, cm3, hv3, hl3, hx3, hc3⟩ := hG.mrow_ (by omega)
  obtain ⟨bn3, cn3, hn3, hln3, hxn3, hcn3⟩ := hG.nrow (by omega)
  obtain ⟨b3, P3, O3, s0, hN3⟩ := hcn3 0 n3 p3
  have u1 : w4.cell? ⟨g, 1, none⟩ = some r4.mv := hG.blk.cell 1
  have u0 : w4.cell? ⟨g, 0, none⟩ = some r4.nv := hG.blk.cell 0
  have v0 := hc3 3 m3 q3 0 _ rfl
  have s2 : w4.cell? ⟨b3, 2, none⟩ = some (.int .i64 n3.role) := hN3.blk.cell 2
  rw [hv3, l3] at u1
  rw [hn3, ln3] at u0
  rw [k3] at v0
  rw [t3] at s2
  rw [l3] at hl3
  rw [ln3] at hln3
  simp only [Nat.reduceMul, Nat.reduceAdd] at v0
  clear hE hG hF hb hv3 hc3 q3 k3 l3 ln3 hn3 hcn3 hN3 p3 t3
  go_wp2_with fail
  refine (play_any 3 3 3 w4 HG3.out HF3.out (by omega)).mono ?_
  rintro e w5 ⟨rfl, ⟨r5, xs5, hG⟩, hb⟩
  have hF := fine_play HF3.out 3 3
  obtain ⟨G4, hE⟩ : ∃ X, G3.play 3 3 = X := ⟨_, rfl⟩
  rw [hE] at hG hF
  have HE4 := Lib.hid hE
  have HG4 := Lib.hid hG
  have HF4 := Lib.hid hF
  have HB5 := Lib.hid hb
  clear hE hG hF hb
  go_wp2_with fail
  refine (play_any 4 3 5 w5 HG4.out HF4.out (by omega)).mono ?_
  rintro e w6 ⟨rfl, ⟨r6, xs6, hG⟩, hb⟩
  have hF := fine_play HF4.out 3 5
  obtain ⟨G5, hE⟩ : ∃ X, G4.play 3 5 = X := ⟨_, rfl⟩
  rw [hE] at hG hF
  have HE5 := Lib.hid hE
  have HG5 := Lib.hid hG
  have HF5 := Lib.hid hF
  have HB6 := Lib.hid hb
  have ln5 : G5.nodes.length = 3 := by rw [← HE5.out, ← HE4.out, ← HE3.out, ← HE2.out, ← HE1.out]; rfl
  obtain ⟨n5, p5, ro5, te5, es5⟩ : ∃ n : ND, G5.nodes[0]? = some n ∧ n.role = 3 ∧ n.term = 1 ∧ n.es.length = 1 := by rw [← HE5.out, ← HE4.out, ← HE3.out, ← HE2.out, ← HE1.out]; exact ⟨_, rfl, rfl, rfl, rfl⟩
  obtain ⟨n6, p6, vo6⟩ : ∃ n : ND, G5.nodes[1]? = some n ∧ n.vote = 0 := by rw [← HE5.out, ← HE4.out, ← HE3.out, ← HE2.out, ← HE1.out]; exact ⟨_, rfl, rfl⟩
  obtain ⟨bn5, cn5, hn5, hln5, hxn5, hcn5⟩ := hG.nrow (by omega)
  obtain ⟨b5, P5, O5, s5, hN5⟩ := hcn5 0 n5 p5
  obtain ⟨b6, P6, O6, s6, hN6⟩ := hcn5 1 n6 p6
  have i0 : w6.cell? ⟨g, 0, none⟩ = some r6.nv := hG.blk.cell 0
  have j2 : w6.cell? ⟨b5, 2, none⟩ = some (.int .i64 n5.role) := hN5.blk.cell 2
  have j6 : w6.cell? ⟨b5, 6, none⟩ = some (.int .u64 (n5.term : Int)) := hN5.blk.cell 6
  have j10 : w6.cell? ⟨b5, 10, none⟩ = some (.slice P5.eA n5.es.length P5.ec) := hN5.blk.cell 10
  have l1 : w6.cell? ⟨b6, 1, none⟩ = some (.int .i64 n6.vote) := hN6.blk.cell 1
  rw [hn5, ln5] at i0
  rw [ro5] at j2
  rw [te5] at j6
  rw [es5] at j10
  rw [vo6] at l1
  rw [ln5] at hln5
  have hbb : Below w.heap.size w w6 := HB1.out.trans (((((HB2.out.trans HB3.out).trans HB4.out).trans HB5.out).trans HB6.out).mono HH.out)
  have HBB := Lib.hid hbb
  clear hbb hE hG hF hb p5 ro5 te5 es5 p6 vo6 ln5 hn5 hcn5 hN5 hN6
  go_wp2
  go_ret
  exact ⟨rfl, HBB.out⟩
end Go.Proofs.Ytbgdepaffgeinaa
