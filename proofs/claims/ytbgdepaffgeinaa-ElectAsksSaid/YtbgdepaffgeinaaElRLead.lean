/- The document's Lead5. -/
import Derived.Test.YtbgdepaffgeinaaElAdd
import Derived.Test.YtbgdepaffgeinaaElAsk
import Derived.Test.YtbgdepaffgeinaaEzRead
namespace Go.Proofs.Ytbgdepaffgeinaa
open Go.RowKit
section
variable {H : Nat} {w w1 : World} {S : Nat → Prop} {g : Nat} {q : RQ} {x : ND}
theorem RQ.head_len (q : RQ) (x : ND) : (q.head x).length = 12 := rfl
theorem RQ.set_next (q : RQ) (x : ND) (hn : x.next.length = 16) {k : Nat} (hk : k < 16) (c : Nat) : (q.cells x).set (12 + k) (uv c) = q.cells (x.nm (x.next.set k c) x.mt) := by
  show (q.head x ++ (x.next.map uv ++ x.mt.map uv)).set (12 + k) (uv c) = q.head x ++ ((x.next.set k c).map uv ++ x.mt.map uv)
  rw [List.set_append_right _ _ (by rw [RQ.head_len]; omega), RQ.head_len, List.set_append_left _ _ (by rw [List.length_map]; omega), List.map_set, show 12 + k - 12 = k by omega]
theorem RQ.set_mt (q : RQ) (x : ND) (hn : x.next.length = 16) {k : Nat} (c : Nat) : (q.cells x).set (28 + k) (uv c) = q.cells (x.nm x.next (x.mt.set k c)) := by
  show (q.head x ++ (x.next.map uv ++ x.mt.map uv)).set (28 + k) (uv c) = q.head x ++ (x.next.map uv ++ (x.mt.set k c).map uv)
  rw [List.set_append_right _ _ (by rw [RQ.head_len]; omega), RQ.head_len, List.set_append_right _ _ (by rw [List.length_map]; omega), List.length_map, hn, List.map_set, show 28 + k - 12 - 16 = k by omega]
/-- one cell of the node's own block is written -/
theorem RN.put (h : RN H w S g q x) (hb : Below w.heap.size w w1) {i : Nat} {u : Value} {x' : ND} (hx : (q.cells x).set i u = q.cells x') (hn : x'.next.length = 16) (hm : x'.mt.length = 16) (hcf : x'.conf = x.conf) (hy : x'.yes = x.yes) (he : x'.es = x.es) :
    RN H (w1.setCell ⟨g, i, none⟩ u) S g q x' ∧ Chg (GN2 g) w (w1.setCell ⟨g, i, none⟩ u) := by
  have h1 := h.after hb
  have hg := only_setCell (World.grownBy.refl w1 (some g)) i u
  have hc : Chg (GN2 g) w1 (w1.setCell ⟨g, i, none⟩ u) := Chg.grown hg fun k e => by cases e; exact .inl rfl
  have hbk := h1.blk.set_ i u
  have far : ∀ {size n c : Nat} {A : Option Addr} {xs : List Value}, Rd H w1 S g size A n c xs → Rd H (w1.setCell ⟨g, i, none⟩ u) S g size A n c xs := fun hl => hl.turn hc.size (fun _ h => h) fun b h1 _ hne => hc.block b h1 hne
  refine ⟨⟨h1.low, fun k hk => by have := h1.top k hk; simpa using this, h1.gS, by have := h1.hH; simpa using this, hn, hm, ?_, ?_, ?_, ?_⟩, (Chg.below hb).same hc⟩
  · have e : (q.cells x).toArray.setIfInBounds i u = (q.cells x').toArray := by rw [← hx]; simp
    rw [← e]
    exact hbk
  · rw [hcf]; exact far h1.conf
  · rw [hy]; exact far h1.yes
  · rw [he]; exact far h1.es
theorem RN.wn (h : RN H w S g q x) (hb : Below w.heap.size w w1) {k : Nat} (hk : k < 16) (c : Nat) : RN H (w1.setCell ⟨g, 12 + k, none⟩ (uv c)) S g q (x.nm (x.next.set k c) x.mt) ∧ Chg (GN2 g) w (w1.setCell ⟨g, 12 + k, none⟩ (uv c)) :=
  h.put hb (q.set_next x h.n16 hk c) (by show (x.next.set k c).length = 16; rw [List.length_set]; exact h.n16) h.m16 rfl rfl rfl
theorem RN.wm (h : RN H w S g q x) (hb : Below w.heap.size w w1) {k : Nat} (c : Nat) : RN H (w1.setCell ⟨g, 28 + k, none⟩ (uv c)) S g q (x.nm x.next (x.mt.set k c)) ∧ Chg (GN2 g) w (w1.setCell ⟨g, 28 + k, none⟩ (uv c)) :=
  h.put hb (q.set_mt x h.n16 c) h.n16 (by show (x.mt.set k c).length = 16; rw [List.length_set]; exact h.m16) rfl rfl rfl
end
section
variable {H : Nat} {S : Nat → Prop} {g : Nat} {q : RQ} {x : ND}
theorem RTo.of {w w1 : World} (hS : ∀ b, S b → S b ∨ w.heap.size ≤ b) (h : RN H w1 S g q x) : RTo H w w1 S g x := ⟨S, q, h, hS⟩
theorem RTo.trans {w w1 w2 : World} {S' : Nat → Prop} {y : ND} (hS : ∀ b, S' b → S b ∨ w.heap.size ≤ b) (hs : w.heap.size ≤ w1.heap.size) (h : RTo H w1 w2 S' g y) : RTo H w w2 S g y := by
  obtain ⟨S2, q2, h2, hS2⟩ := h
  exact ⟨S2, q2, h2, fun b hb => (hS2 b hb).elim (hS b) fun h => .inr (Nat.le_trans hs h)⟩
set_option maxRecDepth 100000 in
set_option maxHeartbeats 6400000 in
theorem rlead_any (w : World) (h : RN H w S g q x) (hbase : x.base < 1152921504606846976) (hes : x.es.length ≤ 900) (hme : 0 ≤ x.me) (hme2 : x.me < 16) :
    Calls Try.prog 67 #[.pointer (some ⟨g, 0, none⟩)] w fun e w' => e = .returned (.tuple #[]) ∧ RTo H w w' S g x.toLead ∧ Chg (GN2 g) w w' := by
  have hB := h.blk
  have x0 : w.cell? ⟨g, 0, none⟩ = some (.int .i64 x.me) := h.c rfl
  have x2 : w.cell? ⟨g, 2, none⟩ = some (.int .i64 x.role) := h.c rfl
  have x3 : w.cell? ⟨g, 3, none⟩ = some (.int .i64 x.lead) := h.c rfl
  have x5 : w.cell? ⟨g, 5, none⟩ = some (.slice q.yA x.yes.length q.yc) := h.c rfl
  have f2 := hB.frozen 2
  have f3 := hB.frozen 3
  have f5 := hB.frozen 5
  have HH := Lib.hid h
  clear h hB
  go_enter Try.func67, Try.ntmps67
  go_wp2_with fail
  have hb := ((HH.out.blk.set_ 2 (.int .i64 3)).set_ 3 (.int .i64 x.me)).set_ 5 (.slice none 0 0)
  have hg := only_setCell (only_setCell (only_setCell (World.grownBy.refl w (some g)) 2 (.int .i64 3)) 3 (.int .i64 x.me)) 5 (.slice none 0 0)
  have hC1 : Chg (GN2 g) w _ := Chg.grown hg fun k e => by cases e; exact .inl rfl
  obtain ⟨S1, hN1, hS1⟩ := HH.out.turn hC1 (q' := { q with yA := none, yc := 0 }) (x' := x.lead1) HH.out.n16 HH.out.m16 (by simpa [RQ.cells, RQ.head, ND.lead1] using hb) (HH.out.kept hC1 HH.out.conf) (Rd.nil _ _ _ _ _) (HH.out.kept hC1 HH.out.es)
  obtain ⟨cA, cc, yA, yc, eA, ec⟩ := q
  generalize hw1 : ((w.setCell ⟨g, 2, none⟩ (.int .i64 3)).setCell ⟨g, 3, none⟩ (.int .i64 x.me)).setCell ⟨g, 5, none⟩ (.slice none 0 0) = w1 at hN1 hC1 hg ⊢
  have HC1 := Lib.hid hC1
  have HS1 := Lib.hid hS1
  have hs1 := hg.size
  clear x0 x2 x3 x5 f2 f3 f5 hb hw1 hg hC1 hS1
  have x6 : w1.cell? ⟨g, 6, none⟩ = some (.int .u64 (x.term : Int)) := hN1.c rfl
  have x8 : w1.cell? ⟨g, 8, none⟩ = some (.int .u64 (x.base : Int)) := hN1.c rfl
  have x9 : w1.cell? ⟨g, 9, none⟩ = some (.int .u64 (x.bt : Int)) := hN1.c rfl
  have x10 : w1.cell? ⟨g, 10, none⟩ = some (.slice eA x.es.length ec) := hN1.c rfl
  have hbl := hN1.blk.lt
  have HADD := Lib.hid (fun W (hW : Below w1.heap.size w1 W) => radd_any x.base x.bt x.es.length ec 0 w1.heap.size x.term eA x.es W (hN1.es.1.after (by decide) hW) (by omega))
  have HN1 := Lib.hid hN1
  have HB1 := Lib.hid hN1.blk
  clear hN1
  obtain ⟨n, hn⟩ : ∃ n, x.es.length = n := ⟨_, rfl⟩
  have HNN := Lib.hid hn
  rw [hn] at x10 HADD hes
  clear hn
  go_cut [0] (fun v w' => v = .pointer (some ⟨g, 0, none⟩) ∧ ∃ (A2 : Option Addr) (c2 : Nat) (S' : Nat → Prop), RN H w' S' g ⟨cA, cc, none, 0, A2, c2⟩ x.lead2 ∧ (∀ b, S' b → S b ∨ w.heap.size ≤ b) ∧ Chg (GN2 g) w w')
  case first =>
    go_region_law (go_simp; go_at_call 84; refine (HADD.out _ (by first | exact Below.refl _ _ | exact (Below.refl _ _).drew)).mono ?_; rintro e w2 ⟨A2, c2, rfl, hown2, hbel⟩; have hown2' : w2.ownsRow w1.heap.size 35 3 (.slice A2 (n + 1) c2) (n + 1) (ecells (x.es ++ [tent x.term])) := hown2; have hbel' : Below w1.heap.size w1 w2 := (by first | exact hbel | exact below_of_drew hbel); have hB2 := HB1.out.after hbel'; have y8 : w2.cell? ⟨g, 8, none⟩ = some (.int .u64 (x.base : Int)) := cell_below hbel' x8; have y9 : w2.cell? ⟨g, 9, none⟩ = some (.int .u64 (x.bt : Int)) := cell_below hbel' x9; have y10 : w2.cell? ⟨g, 10, none⟩ = some (.slice eA n ec) := cell_below hbel' x10; have f8 := hB2.frozen 8; have f9 := hB2.frozen 9; have f10 := hB2.frozen 10; have HBEL := Lib.hid hbel'; have HSL2 := Lib.hid hown2'; clear hB2 hbel hbel' hown2 hown2')
    all_goals
      go_wp2
      go_meet
      have hC := HBEL.out
      have hg := only_setCell (only_setCell (only_setCell (grown_of_below hC (some g)) 8 (.int .u64 (x.base : Int))) 9 (.int .u64 (x.bt : Int))) 10 (.slice A2 (n + 1) c2)
      have hb := (((HB1.out.after hC).set_ 8 (.int .u64 (x.base : Int))).set_ 9 (.int .u64 (x.bt : Int))).set_ 10 (.slice A2 (n + 1) c2)
      have hch : Chg (GN2 g) w1 _ := Chg.grown hg fun k e => by cases e; exact .inl rfl
      have hel : x.lead2.es.length = n + 1 := by show (x.es ++ [tent x.term]).length = n + 1; rw [List.length_append, HNN.out]; rfl
      have hO := own_set (own_set (own_set HSL2.out hbl 8 (.int .u64 (x.base : Int))) hbl 9 (.int .u64 (x.bt : Int))) hbl 10 (.slice A2 (n + 1) c2)
      obtain ⟨S', r1, r2⟩ := HN1.out.turn hch (q' := ⟨cA, cc, none, 0, A2, c2⟩) (x' := x.lead2) HN1.out.n16 HN1.out.m16 (by unfold RQ.cells RQ.head; rw [hel]; simpa [RQ.cells, RQ.head, ND.lead2, ND.lead1, HNN.out] using hb) (HN1.out.kept hch HN1.out.conf) (Rd.nil _ _ _ _ _) (by rw [hel]; exact HN1.out.made hO (Nat.le_refl _))
      exact ⟨rfl, A2, c2, S', r1, fun b hb => (r2 b hb).elim (HS1.out b) fun h => .inr (by omega), HC1.out.same hch⟩
  case rest =>
    obtain ⟨rfl, A2, c2, S2, hN2, hS2, hC2⟩ := hcut
    have HS2 := Lib.hid hS2
    have HC2 := Lib.hid hC2
    have HN2 := Lib.hid hN2
    have hel : x.lead2.es.length = n + 1 := by show (x.es ++ [tent x.term]).length = n + 1; rw [List.length_append, HNN.out]; rfl
    have HEL := Lib.hid hel
    have hmt : (x.me.toNat : Int) = x.me := by omega
    have hmn : x.me.toNat < 16 := by omega
    clear hS2 hC2 hN2 x6 x8 x9 x10 hel HADD HN1 HB1
    go_wp2_with fail
    go_loopw [2] (fun ii wr => ∃ (k : Nat) (N M : List Nat), k ≤ 16 ∧ ii = .int .i64 k ∧ RN H wr S2 g ⟨cA, cc, none, 0, A2, c2⟩ (x.lead2.nm N M) ∧ N.take k = List.replicate k (x.last + 1) ∧ M.take k = List.replicate k 0 ∧ Chg (GN2 g) wc wr) (fun ii _ => 16 - (intOf ii).toNat)
    case atStart => exact ⟨0, x.next, x.mt, Nat.zero_le _, rfl, HN2.out, rfl, rfl, Chg.refl _ _⟩
    case round =>
      obtain ⟨k, N, M, hk, rfl, hNr, hNt, hMt, hCr⟩ := hrel
      have hB := hNr.blk
      have x0 : wr.cell? ⟨g, 0, none⟩ = some (.int .i64 x.me) := hNr.c rfl
      have x8 : wr.cell? ⟨g, 8, none⟩ = some (.int .u64 (x.base : Int)) := hNr.c rfl
      have x9 : wr.cell? ⟨g, 9, none⟩ = some (.int .u64 (x.bt : Int)) := hNr.c rfl
      have x10 : wr.cell? ⟨g, 10, none⟩ = some (.slice A2 (n + 1) c2) := by have : wr.cell? ⟨g, 10, none⟩ = some (.slice A2 x.lead2.es.length c2) := hNr.c rfl; rw [HEL.out] at this; exact this
      have HNR := Lib.hid hNr
      have HBR := Lib.hid hB
      have HCR := Lib.hid hCr
      have HNT := Lib.hid hNt
      have HMT := Lib.hid hMt
      have hbl := hB.lt
      have HLN := Lib.hid (fun W => rlast_any x.base (n + 1) c2 (x.bt : Int) A2 W hbase (by omega))
      clear hNr hB hCr hNt hMt
      by_cases hlt : k < 16
      · have hlt' : (k : Int) < 16 := by omega
        have HK : Hid (∀ W, Below wr.heap.size wr W → W.cell? ⟨g, 8, none⟩ = some (.int .u64 (x.base : Int)) ∧ W.cell? ⟨g, 9, none⟩ = some (.int .u64 (x.bt : Int)) ∧ W.cell? ⟨g, 10, none⟩ = some (.slice A2 (n + 1) c2) ∧ (∃ o1, W.cell? ⟨g, 12 + k, none⟩ = some o1) ∧ W.frozen? ⟨g, 12 + k, none⟩ = false) := fun W hW => by
          have h2 := HBR.out.after hW
          have h3 := HNR.out.n16
          have h4 := HNR.out.m16
          refine ⟨cell_below hW x8, cell_below hW x9, cell_below hW x10, ?_, h2.frozen _⟩
          rw [h2.cell, List.getElem?_toArray]
          refine ⟨_, List.getElem?_eq_getElem (by unfold RQ.cells; rw [List.length_append, List.length_append, RQ.head_len, List.length_map, List.length_map]; omega)⟩
        go_wp2_with fail
        go_region_held3 (fun W' => W'.cell? ⟨g, 8, none⟩ = some (.int .u64 (x.base : Int)) ∧ W'.cell? ⟨g, 9, none⟩ = some (.int .u64 (x.bt : Int)) ∧ W'.cell? ⟨g, 10, none⟩ = some (.slice A2 (n + 1) c2)) (first | exact ⟨x8, x9, x10⟩ | exact ⟨y8, y9, y10⟩ | exact ⟨cell_off y8 (by omega) _, cell_off y9 (by omega) _, cell_off y10 (by omega) _⟩ | go_keep) (first | (go_at_call 23; refine (HLN.out _).mono ?_; rintro e w4 ⟨rfl, hb4⟩; have hb4' : Below wr.heap.size wr w4 := (by first | exact hb4 | exact below_of_drew hb4); have HB4 := Lib.hid hb4'; obtain ⟨y8, y9, y10, ⟨o1, y1⟩, f1⟩ := HK.out _ hb4'; clear hb4 hb4'))
        all_goals
          have hv : Value.int .u64 ((x.base : Int) + ((n : Int) + 1)) = uv (x.last + 1) := by unfold uv ND.last; rw [HNN.out]; exact congrArg _ (by omega)
          rw [hv]
          obtain ⟨r1, r2⟩ := HNR.out.wn HB4.out hlt (x.last + 1)
          generalize hw5 : w4.setCell ⟨g, 12 + k, none⟩ (uv (x.last + 1)) = w5 at r1 r2 ⊢
          have HR1 := Lib.hid r1
          have HR2 := Lib.hid r2
          have z1 := r1.blk.frozen (28 + k)
          obtain ⟨o2, z2⟩ : ∃ o2, w5.cell? ⟨g, 28 + k, none⟩ = some o2 := by
            have h3 := r1.n16
            have h4 := r1.m16
            rw [r1.blk.cell, List.getElem?_toArray]
            exact ⟨_, List.getElem?_eq_getElem (by unfold RQ.cells; rw [List.length_append, List.length_append, RQ.head_len, List.length_map, List.length_map]; omega)⟩
          clear hv hw5 r1 r2 x0 x8 x9 x10 y8 y9 y10 y1 f1 HK
          go_wp2_with fail
          go_roundw
          case rel =>
            obtain ⟨r3, r4⟩ := HR1.out.wm (Below.refl _ _) (k := k) 0
            have hNl := HNR.out.n16
            have hMl := HNR.out.m16
            exact ⟨k + 1, N.set k (x.last + 1), M.set k 0, by omega, by first | rfl | go_num, r3, take_set_rep _ (by have : N.length = 16 := hNl; omega) HNT.out, take_set_rep _ (by have : M.length = 16 := hMl; omega) HMT.out, HCR.out.same (HR2.out.same r4)⟩
          case measure => simp [intOf]; omega
      · obtain rfl : k = 16 := by omega
        obtain ⟨m, hm⟩ : ∃ m, x.me.toNat = m := ⟨_, rfl⟩
        rw [hm] at hmt hmn
        have hme3 : (m : Int).toNat = m := by omega
        have hmi : (m : Int) < 16 := by omega
        rw [← hmt] at x0
        have HM := Lib.hid hm
        have HK : Hid (∀ W, Below wr.heap.size wr W → W.cell? ⟨g, 8, none⟩ = some (.int .u64 (x.base : Int)) ∧ W.cell? ⟨g, 9, none⟩ = some (.int .u64 (x.bt : Int)) ∧ W.cell? ⟨g, 10, none⟩ = some (.slice A2 (n + 1) c2) ∧ W.cell? ⟨g, 0, none⟩ = some (.int .i64 (m : Int)) ∧ (∃ o1, W.cell? ⟨g, 28 + m, none⟩ = some o1) ∧ W.frozen? ⟨g, 28 + m, none⟩ = false) := fun W hW => by
          have h2 := HBR.out.after hW
          have h3 := HNR.out.n16
          have h4 := HNR.out.m16
          refine ⟨cell_below hW x8, cell_below hW x9, cell_below hW x10, cell_below hW x0, ?_, h2.frozen _⟩
          rw [h2.cell, List.getElem?_toArray]
          refine ⟨_, List.getElem?_eq_getElem (by unfold RQ.cells; rw [List.length_append, List.length_append, RQ.head_len, List.length_map, List.length_map]; omega)⟩
        clear hmt hm
        go_wp2_with fail
        go_region_held3 (fun W' => W'.cell? ⟨g, 8, none⟩ = some (.int .u64 (x.base : Int)) ∧ W'.cell? ⟨g, 9, none⟩ = some (.int .u64 (x.bt : Int)) ∧ W'.cell? ⟨g, 10, none⟩ = some (.slice A2 (n + 1) c2) ∧ W'.cell? ⟨g, 0, none⟩ = some (.int .i64 (m : Int))) (first | exact ⟨x8, x9, x10, x0⟩ | exact ⟨y8, y9, y10, y0⟩ | exact ⟨cell_off y8 (by omega) _, cell_off y9 (by omega) _, cell_off y10 (by omega) _, cell_off y0 (by omega) _⟩ | go_keep) (first | (go_at_call 23; refine (HLN.out _).mono ?_; rintro e w4 ⟨rfl, hb4⟩; have hb4' : Below wr.heap.size wr w4 := (by first | exact hb4 | exact below_of_drew hb4); have HB4 := Lib.hid hb4'; obtain ⟨y8, y9, y10, y0, ⟨o1, y1⟩, f1⟩ := HK.out _ hb4'; clear hb4 hb4'))
        all_goals
          go_wp2_with fail
          go_end0
          have hv : Value.int .u64 ((x.base : Int) + ((n : Int) + 1)) = uv (x.last + 1) := by unfold uv ND.last; rw [HNN.out]; exact congrArg _ (by omega)
          rw [hv]
          obtain ⟨r3, r4⟩ := HNR.out.wm HB4.out (k := m) (x.last + 1)
          have e1 : N = List.replicate 16 (x.last + 1) := by have := HNT.out; have h3 : N.length = 16 := HNR.out.n16; rwa [List.take_of_length_le (by omega)] at this
          have e2 : M = List.replicate 16 0 := by have := HMT.out; have h3 : M.length = 16 := HNR.out.m16; rwa [List.take_of_length_le (by omega)] at this
          have e3 : (x.lead2.nm N M).nm (x.lead2.nm N M).next ((x.lead2.nm N M).mt.set m (x.last + 1)) = x.toLead := by
            show x.lead2.nm N (M.set m (x.last + 1)) = x.toLead
            rw [e1, e2, ← HM.out]
            rfl
          rw [e3] at r3
          exact ⟨by first | rfl | trivial, ⟨S2, _, r3, HS2.out⟩, HC2.out.same (HCR.out.same r4)⟩
end
end Go.Proofs.Ytbgdepaffgeinaa
