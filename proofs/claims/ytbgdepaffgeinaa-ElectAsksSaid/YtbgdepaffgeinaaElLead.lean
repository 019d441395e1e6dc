/- A node that leads. -/
import Derived.Test.YtbgdepaffgeinaaElNode
namespace Go.Proofs.Ytbgdepaffgeinaa
open Go.RowKit
theorem own_set1 {w : World} {base e n g c i : Nat} {A : Option Addr} {xs : List Value} (h : w.ownsRow base e 1 (.slice A n c) n xs) (hA : A = some ⟨g, 0, none⟩) (hi : i < n) (u : Value) : (w.setCell ⟨g, i, none⟩ u).ownsRow base e 1 (.slice A n c) n (xs.set i u) := by
  have hl : xs.length = n := by have := h.1; omega
  have := own_setCells h hA i [u] (by simp; omega)
  rw [List.set_eq_take_append_cons_drop, if_pos (by omega)]
  simpa [World.setCells] using this
theorem cell_far {w : World} {b i g : Nat} {v : Value} (h : w.cell? ⟨b, i, none⟩ = some v) (hne : b ≠ g) (j : Nat) (u : Value) : (w.setCell ⟨g, j, none⟩ u).cell? ⟨b, i, none⟩ = some v :=
  (World.cell?_setCell_other w _ _ u (fun e => hne (congrArg Addr.block e).symm)).trans h
def ND.lead1 (x : ND) : ND := { x with role := 3, lead := x.me, yes := [] }
def ND.lead2 (x : ND) : ND := { x.lead1 with es := x.es ++ [tent x.term] }
def ND.nm (x : ND) (N M : List Nat) : ND := { x with next := N, mt := M }
theorem Chg.same2 {O O' : Nat → Prop} {w w1 w2 : World} (h : Chg O w w1) (hs : Sub O w O') (k : Chg O' w1 w2) : Chg O w w2 := h.trans hs k
section
variable {H : Nat} {O : Nat → Prop} {b : Nat} {p : NP} {x : ND}
theorem NodeP.wm {w w1 : World} (h : NodeP H w O b p x) {gm cm : Nat} (hmv : p.mv = .slice (some ⟨gm, 0, none⟩) 16 cm) (hb : Below w.heap.size w w1) {k : Nat} (hk : k < 16) (c : Nat) :
    NodeP H (w1.setCell ⟨gm, k, none⟩ (uv c)) O b p (x.nm x.next (x.mt.set k c)) ∧ Chg O w (w1.setCell ⟨gm, k, none⟩ (uv c)) := by
  have hmO : p.mv.ownBlock = some gm := by rw [hmv]; rfl
  have hg : w.grownBy (w1.setCell ⟨gm, k, none⟩ (uv c)) (some gm) := only_setCell (grown_of_below hb _) k (uv c)
  have hcW : Chg (p.W b) w (w1.setCell ⟨gm, k, none⟩ (uv c)) := Chg.grown hg fun j e => by cases e; exact .inl (.inr (.inr (.inr hmO)))
  have hbm : gm ≠ b := fun e => row_ne h.mt h.blk (by decide) (by rw [hmO, e])
  have hm := h.mt
  rw [hmv] at hm
  have hm1 := own_set1 (own_after hm hb) rfl hk (uv c)
  refine ⟨h.upd O (fun _ h => h) h.low (fun j hj => by have := h.top j hj; have := hg.size; omega) hcW ((h.blk.after hb).far (fun e => hbm e.symm) _) rfl rfl ?_ (.inl rfl) rfl ?_ rfl ?_ (.inl ⟨rfl, rfl, rfl, rfl⟩), hcW.mono h.W_sub⟩
  · exact own_far (own_after h.yes hb) (fun e => row_ne_row h.yes h.mt (by decide) gm e hmO) _ _
  · exact own_far (own_after h.next hb) (fun e => (h.nextO gm e).2 hmO) _ _
  · rw [hmv]
    show World.ownsRow _ _ _ _ _ _ ((x.mt.set k c).map uv)
    rw [List.map_set]
    exact hm1
theorem NodeP.wn {w w1 : World} (h : NodeP H w O b p x) {gm cm : Nat} (hnv : p.nv = .slice (some ⟨gm, 0, none⟩) 16 cm) (hb : Below w.heap.size w w1) {k : Nat} (hk : k < 16) (c : Nat) :
    NodeP H (w1.setCell ⟨gm, k, none⟩ (uv c)) O b p (x.nm (x.next.set k c) x.mt) ∧ Chg O w (w1.setCell ⟨gm, k, none⟩ (uv c)) := by
  have hnO : p.nv.ownBlock = some gm := by rw [hnv]; rfl
  have hg : w.grownBy (w1.setCell ⟨gm, k, none⟩ (uv c)) (some gm) := only_setCell (grown_of_below hb _) k (uv c)
  have hcW : Chg (p.W b) w (w1.setCell ⟨gm, k, none⟩ (uv c)) := Chg.grown hg fun j e => by cases e; exact .inl (.inr (.inr (.inl hnO)))
  have hbm : gm ≠ b := fun e => row_ne h.next h.blk (by decide) (by rw [hnO, e])
  have hm := h.next
  rw [hnv] at hm
  have hm1 := own_set1 (own_after hm hb) rfl hk (uv c)
  refine ⟨h.upd O (fun _ h => h) h.low (fun j hj => by have := h.top j hj; have := hg.size; omega) hcW ((h.blk.after hb).far (fun e => hbm e.symm) _) rfl rfl ?_ (.inl rfl) rfl ?_ rfl ?_ (.inl ⟨rfl, rfl, rfl, rfl⟩), hcW.mono h.W_sub⟩
  · exact own_far (own_after h.yes hb) (fun e => row_ne_row h.yes h.next (by decide) gm e hnO) _ _
  · rw [hnv]
    show World.ownsRow _ _ _ _ _ _ ((x.next.set k c).map uv)
    rw [List.map_set]
    exact hm1
  · exact own_far (own_after h.mt hb) (fun e => (h.nextO gm hnO).2 e) _ _
theorem take_set_rep {N : List Nat} {k : Nat} (c : Nat) (hk : k < N.length) (h : N.take k = List.replicate k c) : (N.set k c).take (k + 1) = List.replicate (k + 1) c := by
  rw [List.take_succ_eq_append_getElem (by simpa using hk), List.take_set_of_le (Nat.le_refl _), h, List.getElem_set_self, List.replicate_succ']
set_option maxRecDepth 100000 in
set_option maxHeartbeats 3200000 in
theorem elead_any (w : World) (h : NodeP H w O b p x) (hbase : x.base < 1152921504606846976) (hes : x.es.length ≤ 900) (hme : 0 ≤ x.me) (hme2 : x.me < 16) :
    Calls Try.prog 82 #[.pointer (some ⟨b, 0, none⟩)] w fun e w' => e = .returned (.tuple #[]) ∧ ∃ p' O', NodeP H w' O' b p' x.toLead ∧ Sub O w O' ∧ Chg O w w' := by
  have hB := h.blk
  obtain ⟨cA, cc, yv, eA, ec, er, nv, mv⟩ := p
  have x0 : w.cell? ⟨b, 0, none⟩ = some (.int .i64 x.me) := hB.cell 0
  have x2 : w.cell? ⟨b, 2, none⟩ = some (.int .i64 x.role) := hB.cell 2
  have x3 : w.cell? ⟨b, 3, none⟩ = some (.int .i64 x.lead) := hB.cell 3
  have x5 : w.cell? ⟨b, 5, none⟩ = some yv := hB.cell 5
  have f2 := hB.frozen 2
  have f3 := hB.frozen 3
  have f5 := hB.frozen 5
  obtain ⟨gn, cn, hnv, -, -, -⟩ := own_at h.next (by decide)
  obtain ⟨gm, cm, hmv, -, -, -⟩ := own_at h.mt (by decide)
  simp only at hnv hmv
  subst hnv hmv
  have HH := Lib.hid h
  clear h hB
  go_enter Try.func82, Try.ntmps82
  go_wp2
  have hb := ((HH.out.blk.set_ 2 (.int .i64 3)).set_ 3 (.int .i64 x.me)).set_ 5 (.slice none 0 0)
  have hg := only_setCell (only_setCell (only_setCell (World.grownBy.refl w (some b)) 2 (.int .i64 3)) 3 (.int .i64 x.me)) 5 (.slice none 0 0)
  have hN1 : NodeP H _ O b _ x.lead1 := HH.out.nobody hg (by simpa [NP.cells, ND.lead1] using hb) rfl rfl rfl rfl rfl
  have hC1 : Chg O w _ := Chg.grown hg fun k e => by cases e; exact .inl HH.out.bO
  generalize hw1 : ((w.setCell ⟨b, 2, none⟩ (.int .i64 3)).setCell ⟨b, 3, none⟩ (.int .i64 x.me)).setCell ⟨b, 5, none⟩ (.slice none 0 0) = w1 at hN1 hC1 hg ⊢
  have HC1 := Lib.hid hC1
  have hs1 := hg.size
  clear x0 x2 x3 x5 f2 f3 f5 hb hw1 hg hC1
  have hB := hN1.blk
  have x6 : w1.cell? ⟨b, 6, none⟩ = some (.int .u64 (x.term : Int)) := hB.cell 6
  have x8 : w1.cell? ⟨b, 8, none⟩ = some (.int .u64 (x.base : Int)) := hB.cell 8
  have x9 : w1.cell? ⟨b, 9, none⟩ = some (.int .u64 (x.bt : Int)) := hB.cell 9
  have x10 : w1.cell? ⟨b, 10, none⟩ = some (.slice eA x.es.length ec) := hB.cell 10
  have hbl := hB.lt
  have hadd := fun W (hW : Below w1.heap.size w1 W) => add_any x.base x.bt x.es.length ec er (er + 1) eA x.es (tent x.term) W (hN1.es.after (by decide) hW) (by omega)
  simp only [tent, List.length_nil] at hadd
  have HADD := Lib.hid hadd
  have HN1 := Lib.hid hN1
  have HB1 := Lib.hid hB
  clear hadd hN1 hB
  obtain ⟨n, hn⟩ : ∃ n, x.es.length = n := ⟨_, rfl⟩
  have HNN := Lib.hid hn
  rw [hn] at x10 HADD hes
  clear hn
  go_cut [0] (fun v w' => v = .pointer (some ⟨b, 0, none⟩) ∧ ∃ (A2 : Option Addr) (c2 g2 : Nat) (O' : Nat → Prop), NodeP H w' O' b ⟨cA, cc, .slice none 0 0, A2, c2, g2, .slice (some ⟨gn, 0, none⟩) 16 cn, .slice (some ⟨gm, 0, none⟩) 16 cm⟩ x.lead2 ∧ Sub O w O' ∧ Chg O w w')
  case first =>
    go_region_law (go_simp; go_at_call 85; refine (HADD.out _ (by first | exact Below.refl _ _ | exact (Below.refl _ _).drew)).mono ?_; rintro e w2 ⟨A2, c2, g2, rfl, hsl2, hg1, hg2, hbel⟩; have hbel' : Below w1.heap.size w1 w2 := (by first | exact hbel | exact below_of_drew hbel); have hB2 := HB1.out.after hbel'; have y8 : w2.cell? ⟨b, 8, none⟩ = some (.int .u64 (x.base : Int)) := hB2.cell 8; have y9 : w2.cell? ⟨b, 9, none⟩ = some (.int .u64 (x.bt : Int)) := hB2.cell 9; have y10 : w2.cell? ⟨b, 10, none⟩ = some (.slice eA x.es.length ec) := hB2.cell 10; have f8 := hB2.frozen 8; have f9 := hB2.frozen 9; have f10 := hB2.frozen 10; have HBEL := Lib.hid hbel'; have HSL2 := Lib.hid hsl2; clear hB2 hbel hbel' hsl2)
    all_goals
      go_wp2
      go_meet
      have hC := HBEL.out
      have hb := (((HB1.out.after hC).set_ 8 (.int .u64 (x.base : Int))).set_ 9 (.int .u64 (x.bt : Int))).set_ 10 (.slice A2 (n + 1) c2)
      have hg := only_setCell (only_setCell (only_setCell (grown_of_below hC (some b)) 8 (.int .u64 (x.base : Int))) 9 (.int .u64 (x.bt : Int))) 10 (.slice A2 (n + 1) c2)
      have hs2 := hC.size
      refine ⟨rfl, A2, c2, g2, fun k => O k ∨ k = g2, ?_, ?_, ?_⟩
      · have hN := HN1.out
        have far : ∀ {size n : Nat} {e : TypeId} {v : Value} {xs : List Value}, 75 ≠ e → w1.ownsRow 0 e size v n xs → World.ownsRow _ 0 e size v n xs := fun ht hr => hr.kept hg (.inr (row_ne hr HB1.out ht))
        have hbg : b < g2 := by have hg1' : w1.heap.size ≤ g2 := hg1; omega
        have hS := ((HSL2.out.setCell (p := ⟨b, 8, none⟩) (.inl hbg) (.int .u64 (x.base : Int))).setCell (p := ⟨b, 9, none⟩) (.inl hbg) (.int .u64 (x.bt : Int))).setCell (p := ⟨b, 10, none⟩) (.inl hbg) (.slice A2 (n + 1) c2)
        have hel : x.lead2.es.length = n + 1 := by show (x.es ++ [tent x.term]).length = n + 1; rw [List.length_append, HNN.out]; rfl
        exact hN.upd _ (fun k h => .inl h) (fun k hk => hk.elim (hN.low k) (fun e => by have := hN.size; have hg1' : w1.heap.size ≤ g2 := hg1; omega)) (fun k hk => hk.elim (fun h => by have := hN.top k h; simp; omega) (fun e => by simp; omega)) (Chg.grown hg fun k e => by cases e; exact .inl (.inl rfl)) (by simpa [NP.cells, ND.lead2, ND.lead1, HNN.out] using hb) rfl rfl (World.ownsRow_nil _ _ _ _) (.inr fun k hk => by cases hk) rfl (far (by decide) hN.next) rfl (far (by decide) hN.mt) (.inr ⟨by simpa using hg1, .inr rfl, (fun h => by cases h), by rw [hel]; exact hS⟩)
      · intro k hk
        rcases hk with hk | hk
        · exact .inl hk
        · have hg1' : w1.heap.size ≤ g2 := hg1; omega
      · exact HC1.out.same (Chg.grown hg fun k e => by cases e; exact .inl HH.out.bO)
  case rest =>
    obtain ⟨rfl, A2, c2, g2, O', hN2, hSub, hC2⟩ := hcut
    have HSUB := Lib.hid hSub
    have HC2 := Lib.hid hC2
    have HN2 := Lib.hid hN2
    have hB := hN2.blk
    have x12 : wc.cell? ⟨b, 12, none⟩ = some (.slice (some ⟨gn, 0, none⟩) 16 cn) := hB.cell 12
    have hel : x.lead2.es.length = n + 1 := by show (x.es ++ [tent x.term]).length = n + 1; rw [List.length_append, HNN.out]; rfl
    have HEL := Lib.hid hel
    have hgnm : gn ≠ gm := fun e => (hN2.nextO gn rfl).2 (by rw [e]; rfl)
    have hnl : x.next.length = 16 := by have := hN2.next.1; rw [List.length_map] at this; exact this
    have hml : x.mt.length = 16 := by have := hN2.mt.1; rw [List.length_map] at this; exact this
    have hmt : (x.me.toNat : Int) = x.me := by omega
    have hmn : x.me.toNat < 16 := by omega
    clear hSub hC2 hN2 hB x6 x8 x9 x10 hel HADD HN1 HB1
    go_wp2
    go_loopw [34] (fun ii wr => ∃ (k : Nat) (N M : List Nat), k ≤ 16 ∧ ii = .int .i64 k ∧ NodeP H wr O' b ⟨cA, cc, .slice none 0 0, A2, c2, g2, .slice (some ⟨gn, 0, none⟩) 16 cn, .slice (some ⟨gm, 0, none⟩) 16 cm⟩ (x.lead2.nm N M) ∧ N.length = 16 ∧ M.length = 16 ∧ N.take k = List.replicate k (x.last + 1) ∧ M.take k = List.replicate k 0 ∧ Chg O' wc wr) (fun ii _ => 16 - (intOf ii).toNat)
    case atStart => exact ⟨0, x.next, x.mt, Nat.zero_le _, rfl, HN2.out, hnl, hml, rfl, rfl, Chg.refl _ _⟩
    case round =>
      obtain ⟨k, N, M, hk, rfl, hNr, hNl, hMl, hNt, hMt, hCr⟩ := hrel
      have hB := hNr.blk
      have x0 : wr.cell? ⟨b, 0, none⟩ = some (.int .i64 x.me) := hB.cell 0
      have x8 : wr.cell? ⟨b, 8, none⟩ = some (.int .u64 (x.base : Int)) := hB.cell 8
      have x9 : wr.cell? ⟨b, 9, none⟩ = some (.int .u64 (x.bt : Int)) := hB.cell 9
      have x10 : wr.cell? ⟨b, 10, none⟩ = some (.slice A2 (n + 1) c2) := by have : wr.cell? ⟨b, 10, none⟩ = some (.slice A2 x.lead2.es.length c2) := hB.cell 10; rw [HEL.out] at this; exact this
      have x12 : wr.cell? ⟨b, 12, none⟩ = some (.slice (some ⟨gn, 0, none⟩) 16 cn) := hB.cell 12
      have x13 : wr.cell? ⟨b, 13, none⟩ = some (.slice (some ⟨gm, 0, none⟩) 16 cm) := hB.cell 13
      have HNR := Lib.hid hNr
      have HBR := Lib.hid hB
      have HCR := Lib.hid hCr
      have HNT := Lib.hid hNt
      have HMT := Lib.hid hMt
      have hbl := hB.lt
      have hgn := (hNr.next.lt gn rfl).2
      have hgm := (hNr.mt.lt gm rfl).2
      have hbn : b ≠ gn := fun e => row_ne hNr.next hB (by decide) (by rw [e]; rfl)
      have hbm : b ≠ gm := fun e => row_ne hNr.mt hB (by decide) (by rw [e]; rfl)
      clear hNr hB hCr hNt hMt
      by_cases hlt : k < 16
      · have hln := fun W => last_any x.base (n + 1) c2 (x.bt : Int) A2 W hbase (by omega)
        have HLN := Lib.hid hln
        have HGN := Lib.hid (own_here HNR.out.next)
        have HGM := Lib.hid (own_here HNR.out.mt)
        have HK : Hid (∀ W, Below wr.heap.size wr W → W.cell? ⟨b, 8, none⟩ = some (.int .u64 (x.base : Int)) ∧ W.cell? ⟨b, 9, none⟩ = some (.int .u64 (x.bt : Int)) ∧ W.cell? ⟨b, 10, none⟩ = some (.slice A2 (n + 1) c2) ∧ W.cell? ⟨b, 12, none⟩ = some (.slice (some ⟨gn, 0, none⟩) 16 cn) ∧ W.cell? ⟨b, 13, none⟩ = some (.slice (some ⟨gm, 0, none⟩) 16 cm) ∧ (∃ o1, W.cell? ⟨gn, k, none⟩ = some o1) ∧ (∃ o2, W.cell? ⟨gm, k, none⟩ = some o2) ∧ W.frozen? ⟨gn, k, none⟩ = false ∧ W.frozen? ⟨gm, k, none⟩ = false) := fun W hW => by
          have h1 := own_here (own_after HNR.out.next hW)
          have h2 := own_here (own_after HNR.out.mt hW)
          exact ⟨cell_below hW x8, cell_below hW x9, cell_below hW x10, cell_below hW x12, cell_below hW x13, Option.isSome_iff_exists.1 (h1.1 k (by omega)), Option.isSome_iff_exists.1 (h2.1 k (by omega)), h1.2 k, h2.2 k⟩
        clear hln
        go_wp2
        go_region_held3 (fun W' => W'.cell? ⟨b, 8, none⟩ = some (.int .u64 (x.base : Int)) ∧ W'.cell? ⟨b, 9, none⟩ = some (.int .u64 (x.bt : Int)) ∧ W'.cell? ⟨b, 10, none⟩ = some (.slice A2 (n + 1) c2) ∧ W'.cell? ⟨b, 12, none⟩ = some (.slice (some ⟨gn, 0, none⟩) 16 cn) ∧ W'.cell? ⟨b, 13, none⟩ = some (.slice (some ⟨gm, 0, none⟩) 16 cm)) (first | exact ⟨x8, x9, x10, x12, x13⟩ | exact ⟨y8, y9, y10, y12, y13⟩ | exact ⟨cell_far y8 hbn _ _, cell_far y9 hbn _ _, cell_far y10 hbn _ _, cell_far y12 hbn _ _, cell_far y13 hbn _ _⟩ | exact ⟨cell_far (cell_far y8 hbn _ _) hbm _ _, cell_far (cell_far y9 hbn _ _) hbm _ _, cell_far (cell_far y10 hbn _ _) hbm _ _, cell_far (cell_far y12 hbn _ _) hbm _ _, cell_far (cell_far y13 hbn _ _) hbm _ _⟩ | go_keep) (first | (go_at_call 15; refine (HLN.out _).mono ?_; rintro e w4 ⟨rfl, hb4⟩; have hb4' : Below wr.heap.size wr w4 := (by first | exact hb4 | exact below_of_drew hb4); have HB4 := Lib.hid hb4'; obtain ⟨y8, y9, y10, y12, y13, ⟨o1, y1⟩, ⟨o2, y2⟩, f1, f2⟩ := HK.out _ hb4'; clear hb4 hb4'))
        all_goals
          go_wp2
          go_roundw
          case rel =>
            have hv : Value.int .u64 ((x.base : Int) + ((n : Int) + 1)) = uv (x.last + 1) := by unfold uv ND.last; rw [HNN.out]; exact congrArg _ (by omega)
            rw [hv]
            obtain ⟨r1, r2⟩ := HNR.out.wn rfl HB4.out hlt (x.last + 1)
            obtain ⟨r3, r4⟩ := r1.wm rfl (Below.refl _ _) hlt 0
            exact ⟨k + 1, N.set k (x.last + 1), M.set k 0, by omega, by first | rfl | go_num, r3, by rw [List.length_set]; exact hNl, by rw [List.length_set]; exact hMl, take_set_rep _ (by omega) HNT.out, take_set_rep _ (by omega) HMT.out, HCR.out.same (r2.same r4)⟩
          case measure => simp [intOf]; omega
      · obtain rfl : k = 16 := by omega
        have hln := fun W => last_any x.base (n + 1) c2 (x.bt : Int) A2 W hbase (by omega)
        have HLN := Lib.hid hln
        obtain ⟨m, hm⟩ : ∃ m, x.me.toNat = m := ⟨_, rfl⟩
        rw [hm] at hmt hmn
        have hme3 : (m : Int).toNat = m := by omega
        have hmi : (m : Int) < 16 := by omega
        rw [← hmt] at x0
        have HM := Lib.hid hm
        have HK : Hid (∀ W, Below wr.heap.size wr W → W.cell? ⟨b, 8, none⟩ = some (.int .u64 (x.base : Int)) ∧ W.cell? ⟨b, 9, none⟩ = some (.int .u64 (x.bt : Int)) ∧ W.cell? ⟨b, 10, none⟩ = some (.slice A2 (n + 1) c2) ∧ W.cell? ⟨b, 0, none⟩ = some (.int .i64 (m : Int)) ∧ W.cell? ⟨b, 13, none⟩ = some (.slice (some ⟨gm, 0, none⟩) 16 cm) ∧ (∃ o2, W.cell? ⟨gm, m, none⟩ = some o2) ∧ W.frozen? ⟨gm, m, none⟩ = false) := fun W hW => by
          have h2 := own_here (own_after HNR.out.mt hW)
          exact ⟨cell_below hW x8, cell_below hW x9, cell_below hW x10, cell_below hW x0, cell_below hW x13, Option.isSome_iff_exists.1 (h2.1 m (by omega)), h2.2 m⟩
        clear hln hmt hm
        go_wp2
        go_region_held3 (fun W' => W'.cell? ⟨b, 8, none⟩ = some (.int .u64 (x.base : Int)) ∧ W'.cell? ⟨b, 9, none⟩ = some (.int .u64 (x.bt : Int)) ∧ W'.cell? ⟨b, 10, none⟩ = some (.slice A2 (n + 1) c2) ∧ W'.cell? ⟨b, 0, none⟩ = some (.int .i64 (m : Int)) ∧ W'.cell? ⟨b, 13, none⟩ = some (.slice (some ⟨gm, 0, none⟩) 16 cm)) (first | exact ⟨x8, x9, x10, x0, x13⟩ | exact ⟨y8, y9, y10, y0, y13⟩ | exact ⟨cell_far y8 hbm _ _, cell_far y9 hbm _ _, cell_far y10 hbm _ _, cell_far y0 hbm _ _, cell_far y13 hbm _ _⟩ | go_keep) (first | (go_at_call 15; refine (HLN.out _).mono ?_; rintro e w4 ⟨rfl, hb4⟩; have hb4' : Below wr.heap.size wr w4 := (by first | exact hb4 | exact below_of_drew hb4); have HB4 := Lib.hid hb4'; obtain ⟨y8, y9, y10, y0, y13, ⟨o2, y2⟩, f2⟩ := HK.out _ hb4'; clear hb4 hb4'))
        all_goals
          go_wp2
          go_end0
          have hv : Value.int .u64 ((x.base : Int) + ((n : Int) + 1)) = uv (x.last + 1) := by unfold uv ND.last; rw [HNN.out]; exact congrArg _ (by omega)
          rw [hv]
          obtain ⟨r3, r4⟩ := HNR.out.wm rfl HB4.out hmn (x.last + 1)
          refine ⟨by first | rfl | trivial, ⟨cA, cc, .slice none 0 0, A2, c2, g2, .slice (some ⟨gn, 0, none⟩) 16 cn, .slice (some ⟨gm, 0, none⟩) 16 cm⟩, O', ?_, HSUB.out, HC2.out.same2 HSUB.out (HCR.out.same r4)⟩
          have e1 : N = List.replicate 16 (x.last + 1) := by have := HNT.out; rwa [List.take_of_length_le (by omega)] at this
          have e2 : M = List.replicate 16 0 := by have := HMT.out; rwa [List.take_of_length_le (by omega)] at this
          have e3 : (x.lead2.nm N M).nm (x.lead2.nm N M).next ((x.lead2.nm N M).mt.set m (x.last + 1)) = x.toLead := by
            show x.lead2.nm N (M.set m (x.last + 1)) = x.toLead
            rw [e1, e2, ← HM.out]
            rfl
          rw [e3] at r3
          exact r3
end
end Go.Proofs.Ytbgdepaffgeinaa
