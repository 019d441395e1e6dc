import Derived.Test.YtciolppoanfiaaaDoorZBagC
/- The bag's Drop, and what Spoil, Drop and Twice refuse. -/
namespace Go.Proofs.YtciolppoanfiaaaDoor
open Go.RowKit Go.ChangeMaps
section
variable {H : Nat} {w : World} {O : Nat → Prop} {g : Nat} {fs : List (List UInt8)} {ks : List (Int × Int)} {lost : Nat}
set_option maxRecDepth 100000 in
theorem bdrop_no (i : Int) (w : World) (h : BagAt H w O g fs ks lost) (hi : ¬ (0 ≤ i ∧ i < (fs.length : Int))) :
    Calls Tryd.prog 44 #[.pointer (some ⟨g, 0, none⟩), .int .i64 i] w fun e w' => e = .returned (.int .i64 1) ∧ w = w' := by
  have hc := bhas_any i _ h (decide_eq_false hi)
  have HC := Lib.hid hc
  clear hc hi h
  go_enter Tryd.func44, Tryd.ntmps44
  go_wp2_with fail
  refine HC.out.mono ?_
  rintro e _ ⟨rfl, rfl⟩
  go_wp2
  go_ret
  exact ⟨rfl, rfl⟩
set_option maxRecDepth 100000 in
theorem bdrop_ok (i : Nat) (w : World) (h : BagAt H w O g fs ks lost) (hi : i < fs.length) (hn : fs.length ≤ 1000) (hlo : lost < 1000000) :
    Calls Tryd.prog 44 #[.pointer (some ⟨g, 0, none⟩), .int .i64 (i : Int)] w fun e w' => e = .returned (.int .i64 0) ∧ BagAt H w' O g (fs.eraseIdx i) ks (lost + 1) ∧ Chg O w w' := by
  have hc := bhas_any (i : Int) _ h (b := true) (decide_eq_true (by omega))
  have ht := btake_any w i h hi hn
  have HC := Lib.hid hc
  have HT := Lib.hid ht
  clear hc ht hi hn h
  go_enter Tryd.func44, Tryd.ntmps44
  go_wp2_with fail
  refine HC.out.mono ?_
  rintro e _ ⟨rfl, rfl⟩
  go_wp2_with fail
  refine HT.out.mono ?_
  rintro e w1 ⟨rfl, B1, c1, -⟩
  obtain ⟨L1, L2, -⟩ := B1.lose1
  have HL1 := Lib.hid L1
  have HL2 := Lib.hid (c1.same L2)
  have hb := B1
  obtain ⟨-, -, -, v, mb, F, hb, -, -, -, -⟩ := hb
  obtain ⟨x0, x1, x2⟩ := hb.c3
  have f2 := hb.frozen 2
  clear hb B1 c1 L1 L2 HC HT x0 x1
  go_wp2
  go_ret
  exact ⟨rfl, HL1.out, HL2.out⟩
set_option maxRecDepth 100000 in
theorem btwice_no (i : Int) (w : World) (h : BagAt H w O g fs ks lost) (hi : ¬ (0 ≤ i ∧ i < (fs.length : Int))) :
    Calls Tryd.prog 43 #[.pointer (some ⟨g, 0, none⟩), .int .i64 i] w fun e w' => e = .returned (.int .i64 1) ∧ w = w' := by
  have hc := bhas_any i _ h (decide_eq_false hi)
  have HC := Lib.hid hc
  clear hc hi h
  go_enter Tryd.func43, Tryd.ntmps43
  go_wp2_with fail
  refine HC.out.mono ?_
  rintro e _ ⟨rfl, rfl⟩
  go_wp2
  go_ret
  exact ⟨rfl, rfl⟩
set_option maxRecDepth 100000 in
theorem btwice_full (i : Nat) (w : World) (h : BagAt H w O g fs ks lost) (hi : i < fs.length) (h60 : 60 ≤ fs.length) :
    Calls Tryd.prog 43 #[.pointer (some ⟨g, 0, none⟩), .int .i64 (i : Int)] w fun e w' => e = .returned (.int .i64 42) ∧ w = w' := by
  have hc := bhas_any (i : Int) _ h (b := true) (decide_eq_true (by omega))
  have hf := bfull_any w h (b := true) (decide_eq_true h60)
  have HC := Lib.hid hc
  have HF := Lib.hid hf
  clear hc hf hi h60 h
  go_enter Tryd.func43, Tryd.ntmps43
  go_wp2_with fail
  refine HC.out.mono ?_
  rintro e _ ⟨rfl, rfl⟩
  go_wp2_with fail
  refine HF.out.mono ?_
  rintro e _ ⟨rfl, rfl⟩
  go_wp2
  go_ret
  exact ⟨rfl, rfl⟩
end
end Go.Proofs.YtciolppoanfiaaaDoor

/- The bag's Twice. -/
namespace Go.Proofs.YtciolppoanfiaaaDoor
open Go.RowKit Go.ChangeMaps
section
variable {H : Nat} {w : World} {O : Nat → Prop} {g : Nat} {fs : List (List UInt8)} {ks : List (Int × Int)} {lost : Nat}
set_option maxRecDepth 100000 in
set_option maxHeartbeats 4000000 in
theorem btwice_ok (i : Nat) (l : List UInt8) (w : World) (h : BagAt H w O g fs ks lost) (hHw : H ≤ w.heap.size) (hi : fs[i]? = some l) (h60 : fs.length < 60) (hl0 : 0 < l.length) (hl : l.length ≤ 100000) :
    Calls Tryd.prog 43 #[.pointer (some ⟨g, 0, none⟩), .int .i64 (i : Int)] w fun e w' => ∃ O', e = .returned (.int .i64 0) ∧ BagAt H w' O' g (fs ++ [l]) ks lost ∧ Chg O w w' ∧ Sub O w O' := by
  have hin := (List.getElem?_eq_some_iff.1 hi).1
  have hc := bhas_any (i : Int) _ h (b := true) (decide_eq_true (by omega))
  have hf := bfull_any w h (b := false) (decide_eq_false (by omega))
  have h0 := h
  obtain ⟨ad, c, mb, F, fr, hbk, hmO, hm, hF, hfs, hFi, hfl, hcap, hmax, hcell⟩ := h0.at_ hi
  obtain ⟨i0, hi0, hz0, hz1, hz2⟩ := info_parts row_info
  obtain ⟨x0, x1, x2⟩ := hbk.c3
  have hfo := hF.fr fr (List.mem_of_getElem? hFi)
  obtain ⟨A', c', ev, hs⟩ := own_sl hfo
  simp only [Fr.v] at hcell ev
  injection ev with e1 e2 e3
  subst e1 e3
  rw [hfl] at hcell hs
  obtain ⟨ln, hln⟩ : ∃ n, l.length = n := ⟨_, rfl⟩
  rw [hln] at hcell hs hl0 hl
  have hnF : F.length = fs.length := by rw [← hfs, List.length_map]
  have FIN : Hid (∀ W, Below w.heap.size w W → ∀ fr2 : Fr, W.ownsRow 0 5 1 fr2.v fr2.l.length (fr2.l.map bv) → w.heap.size ≤ fr2.b → fr2.b < W.heap.size → ∀ (v2 : Value) (w2 : World), w2.ownsRow 0 22 1 v2 (fs.length + 1) (F.map Fr.v ++ [fr2.v]) → W.grownBy w2 (Value.slice (some ad) fs.length c).ownBlock → (v2.ownBlock = (Value.slice (some ad) fs.length c).ownBlock ∨ v2.ownBlock = some W.heap.size) →
      ∃ O', BagAt H (w2.setCell ⟨g, 0, none⟩ v2) O' g (fs ++ [fr2.l]) ks lost ∧ Chg O w (w2.setCell ⟨g, 0, none⟩ v2) ∧ Sub O w O') := fun W hW fr2 q1 q2 q3 v2 w2 a1 a2 a3 =>
    h0.push hbk hF hm hmO hfs hW fr2 q1 q2 q3 (by rw [hnF]; exact a1) a2 a3 hHw rfl
  have HBL := Lib.hid (row_ne_blk hF.row hbk (by decide))
  have hrow : w.ownsRow 0 22 1 (.slice (some ad) fs.length c) fs.length (F.map Fr.v) := by have := hF.row; rwa [hnF] at this
  have HROW : Hid (∀ W, Below w.heap.size w W → W.ownsRow 0 22 1 (.slice (some ad) fs.length c) fs.length (F.map Fr.v)) := fun W hW => own_chg hrow fun b hb' => hW.block b (h0.top b (hF.rowO b hb'))
  have HBK : Hid (∀ W, Below w.heap.size w W → Blk W g 96 #[.slice (some ad) fs.length c, .map (some mb), .int .i64 (lost : Int)]) := fun W hW => hbk.after hW
  have HC := Lib.hid hc
  have HF := Lib.hid hf
  have HS := Lib.hid hs
  have HLN := Lib.hid hln
  clear hc hf h0 h hF hfs hFi hfo hs hln hi hbk hm hnF hrow hfl
  generalize fs.length = n at x0 hcap hin h60 FIN HBL HROW HBK
  go_enter Tryd.func43, Tryd.ntmps43
  go_wp2_with fail
  refine HC.out.mono ?_
  rintro e _ ⟨rfl, rfl⟩
  go_wp2_with fail
  refine HF.out.mono ?_
  rintro e _ ⟨rfl, rfl⟩
  go_wp2_with fail
  go_region_law (first
    | (have _g := o2; refine step_app _ rfl (.tmp 17) (.tmp 26) 34 rfl 0 22 i0 _ 1 24 Tryd.underlying34 hi0 hz0 hz1 hz2 rfl (by omega) (.slice (some ad) n c) n (F.map Fr.v) (by simp [Act.eval, Act.put]) (by first | exact (HROW.out _ D1).alloc _) w1.heap.size (w1.heap.size + 1) (some ⟨w1.heap.size, 0, none⟩) 1 1 [.slice (some ⟨fr2.b, 0, none⟩) fr2.l.length fr2.c] (by simp [Act.eval, Act.put]) (by first | exact sl_one _ _ _ | exact (sl_one _ _ _).drew) (by intro u hu; rw [List.mem_singleton.1 hu]; rfl) (by simp only [maxLen]; omega) (by omega) (Nat.zero_le _) ?_; intro v2 w2 hown2 hg2 hat2; obtain ⟨A2, c2, hv2, -⟩ := own_sl hown2; subst hv2; have hbb2 := Blk.grown (by first | exact (HBK.out _ D1).alloc _ | exact ((HBK.out _ D1).alloc _).drew) hg2 HBL.out; obtain ⟨y0, y1, y2⟩ := hbb2.c3; have f0 := hbb2.frozen 0)
    | (go_simp; go_at_call 52; refine (clone_any (some ⟨fr.b, 0, none⟩) ln fr.c _ _ l _ (by first | exact HS.out | exact HS.out.drew) (by omega)).mono ?_; rintro e w1 ⟨u, rfl, o1, b1⟩; have D1 : Below w.heap.size w w1 := (by first | exact b1 | exact below_of_drew b1); obtain ⟨Au, cu, hu, -⟩ := own_sl o1; subst hu; obtain ⟨fr2, hf2, hc2, hv2, hb2, hW2, o2⟩ := own_fr (l := l) (by rw [HLN.out]; exact o1) (by rw [HLN.out]; exact hl0); have HF2 := Lib.hid hf2; have hz0' := (HBK.out _ D1).cell 0; have hza := ((HBK.out _ D1).alloc (.cells #[.slice (some ⟨fr2.b, 0, none⟩) fr2.l.length fr2.c] 22)).cell 0; simp only [List.getElem?_toArray, List.getElem?_cons_zero] at hz0' hza; rw [HLN.out] at hv2; simp only [Fr.v] at hv2; injection hv2 with hA hL hC; subst hA hL hC; clear hf2 hc2 b1 o1))
  all_goals
    go_wp2
    go_ret
    obtain ⟨O', r1, r2, r3⟩ := FIN.out _ (by first | exact D1.alloc D1.size _ | exact (D1.alloc D1.size _).drew) fr2 (by first | exact own_after o2 ((Below.refl _ _).alloc (Nat.le_refl _) _) | exact own_after o2 ((Below.refl _ _).alloc (Nat.le_refl _) _).drew) (by simpa using hb2) (by first | (rw [alloc_size]; omega) | (simp only [drew_size, alloc_size]; omega)) _ _ hown2 hg2 hat2
    rw [HF2.out] at r1
    exact ⟨O', rfl, r1, r2, r3⟩
end
end Go.Proofs.YtciolppoanfiaaaDoor
