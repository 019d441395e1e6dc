/- The document's Due. -/
import Derived.Test.YtcocakbopbehjaaClkRef4
namespace Go.Proofs.Ytcocakbopbehjaa
open Go.RowKit
/-- how far the document's Due has come -/
structure DI (i : Int) (x : Nat) (l l2 : List RT) (out : List Tm) : Prop where
  due : out ++ tsort (rlate i x l2) = tsort (rlate i x l)
  rest : ((rsel i l2).filter fun u => !lateb x u) = (rsel i l).filter fun u => !lateb x u
  oth : ∀ j, j ≠ i → rsel j l2 = rsel j l
  len : l2.length ≤ l.length
  nd : ((rsel i l2).map (·.1)).Nodup
  sub : ∀ t ∈ l2, t ∈ l
theorem DI.start {i : Int} {x : Nat} {l : List RT} (h : ((rsel i l).map (·.1)).Nodup) : DI i x l l [] := ⟨rfl, rfl, fun _ _ => rfl, Nat.le_refl _, h, fun _ h => h⟩
theorem DI.step {i : Int} {x : Nat} {l l2 : List RT} {out : List Tm} (h : DI i x l l2 out) {t : Tm} (hf : rfirst i x l2 = some t) : DI i x l (rwo i t.1 l2) (out ++ [t]) := by
  refine ⟨?_, ?_, fun j hj => ?_, Nat.le_trans (rwo_len _ _ _) h.len, ?_, fun u hu => h.sub u (rwo_sub hu)⟩
  · rw [List.append_assoc, List.singleton_append, ← rdue_step h.nd hf]
    exact h.due
  · rw [rest_step h.nd hf]; exact h.rest
  · rw [rsel_rwo_ne hj]; exact h.oth j hj
  · rw [rsel_rwo]
    exact h.nd.sublist ((List.filter_sublist).map _)
theorem DI.less {i : Int} {x : Nat} {l l2 : List RT} {out : List Tm} (h : DI i x l l2 out) {t : Tm} (hf : rfirst i x l2 = some t) : (rlate i x (rwo i t.1 l2)).length < (rlate i x l2).length := by
  have h1 := congrArg List.length (rdue_step h.nd hf)
  rw [List.length_cons, tsort_len, tsort_len] at h1
  omega
theorem DI.done {i : Int} {x : Nat} {l l2 : List RT} {out : List Tm} (h : DI i x l l2 out) (hf : rfirst i x l2 = none) : out = tsort (rlate i x l) ∧ rlate i x l2 = [] := by
  have h1 := rfirst_none hf
  have h2 := h.due
  rw [h1] at h2
  exact ⟨by simpa [tsort] using h2, h1⟩
theorem DI.short {i : Int} {x : Nat} {l l2 : List RT} {out : List Tm} (h : DI i x l l2 out) : out.length ≤ l.length := by
  have h1 := congrArg List.length h.due
  rw [List.length_append, tsort_len, tsort_len] at h1
  have : (rlate i x l).length ≤ l.length := Nat.le_trans (List.length_filter_le _ _) (rsel_len _ _)
  omega
theorem Chg.low {O : Nat → Prop} {w w1 w2 : World} {r : Option Nat} (h : Chg O w w1) (hg : w1.grownBy w2 r) (hr : ∀ b, r = some b → w.heap.size ≤ b) : Chg O w w2 :=
  ⟨hg.os.trans h.os, hg.tape.trans h.tape, hg.output.trans h.output, Nat.le_trans h.size hg.size, fun k hk hn => (hg.block k (Nat.lt_of_lt_of_le hk h.size) fun e => by have := hr k e.symm; omega).trans (h.block k hk hn)⟩
theorem RS.ints {w w1 : World} {g : Nat} {vn vp vt v : Value} {N : List Nat} {P : List Bool} {l : List RT} {base n : Nat} {xs : List Value} (h : RS w g vn vp vt N P l) (hr : w.ownsRow base 3 1 v n xs) (hg : w.grownBy w1 v.ownBlock) : RS w1 g vn vp vt N P l :=
  h.keep fun b hO => hg.block b (h.top b hO) fun e => by
    rcases hO with rfl | hO | hO | hO
    · exact row_ne hr h.blk (by decide) e.symm
    · exact row_ne_row hr h.rn (by decide) b e.symm hO
    · exact row_ne_row hr h.rp (by decide) b e.symm hO
    · exact row_ne_row hr h.rt (by decide) b e.symm hO
section
variable {w : World} {g : Nat} {vn vp vt : Value} {N : List Nat} {P : List Bool} {l : List RT}
set_option maxRecDepth 100000 in
theorem rdue_no (i : Int) (h : RS w g vn vp vt N P l) (hi : ¬ (0 ≤ i ∧ i < (N.length : Int))) :
    Calls Try.prog 21 #[.pointer (some ⟨g, 0, none⟩), .int .i64 i] w fun e w' => e = .returned (.slice none 0 0) ∧ w = w' := by
  have hC := rin_any i w h (decide_eq_false hi)
  clear h hi
  go_enter Try.func21, Try.ntmps21
  go_wp2_with fail
  refine hC.mono ?_
  rintro e _ ⟨rfl, rfl⟩
  go_wp2
  go_ret
  exact ⟨rfl, rfl⟩
set_option maxRecDepth 100000 in
theorem rdue_paused (i : Nat) (h : RS w g vn vp vt N P l) (hp : P[i]? = some true) :
    Calls Try.prog 21 #[.pointer (some ⟨g, 0, none⟩), .int .i64 (i : Int)] w fun e w' => e = .returned (.slice none 0 0) ∧ w = w' := by
  have hil := (List.getElem?_eq_some_iff.1 hp).1
  have hC := rin_any (i : Int) w h (decide_eq_true (by have := h.same; omega))
  obtain ⟨b, c, y, rfl, hy, hcell, hfz, hnc⟩ := h.pz hil
  rw [hp] at hy
  injection hy with hy
  subst hy
  obtain ⟨x0, x1, x2⟩ := h.blk.c3
  have hsh : P.length ≤ 16 := by rw [← h.same]; exact h.short
  clear h hp
  go_enter Try.func21, Try.ntmps21
  go_wp2_with fail
  refine hC.mono ?_
  rintro e _ ⟨rfl, rfl⟩
  go_wp2
  go_ret
  exact ⟨rfl, rfl⟩
set_option maxRecDepth 100000 in
set_option maxHeartbeats 6400000 in
theorem rdue_ok (i : Nat) (h : RS w g vn vp vt N P l) {x : Nat} (hi : N[i]? = some x) (hp : P[i]? = some false) (hnd : ((rsel (i : Int) l).map (·.1)).Nodup) :
    Calls Try.prog 21 #[.pointer (some ⟨g, 0, none⟩), .int .i64 (i : Int)] w fun e w' => ∃ v vt' l2, e = .returned v ∧ w'.ownsRow w.heap.size 3 1 v (tsort (rlate (i : Int) x l)).length (ids (tsort (rlate (i : Int) x l))) ∧ RS w' g vn vp vt' N P l2 ∧ Chg (ROwn g vn vp vt) w w' ∧ (∀ b, vt'.ownBlock = some b → vt.ownBlock = some b ∨ w.heap.size ≤ b) ∧ rlate (i : Int) x l2 = [] ∧ DI (i : Int) x l l2 (tsort (rlate (i : Int) x l)) := by
  obtain ⟨i0, hi0, hz0, hz1, hz2⟩ := info_parts int_info
  have hil := (List.getElem?_eq_some_iff.1 hp).1
  have hiN := (List.getElem?_eq_some_iff.1 hi).1
  have hC := rin_any (i : Int) w h (decide_eq_true (by omega))
  have HC := Lib.hid hC
  obtain ⟨b, c, y, rfl, hy, hcell, hfz, hnc⟩ := h.pz hil
  rw [hp] at hy
  injection hy with hy
  subst hy
  obtain ⟨x0, x1, x2⟩ := h.blk.c3
  have hsh : P.length ≤ 16 := by rw [← h.same]; exact h.short
  have hgl := h.blk.lt
  have HH := Lib.hid h
  have HI := Lib.hid hi
  have HND := Lib.hid hnd
  have hlen := h.len
  clear h hp hi hC hfz hnd
  go_enter Try.func21, Try.ntmps21
  go_wp2_with fail
  refine HC.out.mono ?_
  rintro e _ ⟨rfl, rfl⟩
  go_wp2
  go_loopg [6, 7, 8, 9, 10, 11] (rlate (i : Int) x l).length (fun gg v _ _ _ _ _ wr => ∃ (out : List Tm) (l2 : List RT) (vt' : Value), (rlate (i : Int) x l2).length ≤ gg ∧ wr.ownsRow w.heap.size 3 1 v out.length (ids out) ∧ RS wr g vn (.slice (some ⟨b, 0, none⟩) P.length c) vt' N P l2 ∧ Chg (ROwn g vn (.slice (some ⟨b, 0, none⟩) P.length c) vt) w wr ∧ (∀ b, vt'.ownBlock = some b → vt.ownBlock = some b ∨ w.heap.size ≤ b) ∧ DI (i : Int) x l l2 out)
  case atStart => exact ⟨[], l, vt, Nat.le_refl _, World.ownsRow_nil _ _ _ _, HH.out, Chg.refl _ _, fun b hb => .inl hb, DI.start HND.out⟩
  case round =>
    obtain ⟨out, l2, vt', hgg, hrow, hR, hch, hvt, hdi⟩ := hrel
    obtain ⟨E, e0, rfl, -⟩ := own_sl hrow
    have hshort := hdi.short
    have hF := fun r hr => rfirst_any i hR HI.out (r := r) hr
    have HF := Lib.hid hF
    have HROW := Lib.hid hrow
    have HR := Lib.hid hR
    have HCH := Lib.hid hch
    have HVT := Lib.hid hvt
    have HDI := Lib.hid hdi
    have HGG := Lib.hid hgg
    obtain ⟨m, hm⟩ : ∃ m, out.length = m := ⟨_, rfl⟩
    simp only [hm] at HROW hshort ⊢
    have HM := Lib.hid hm
    clear hF hrow hR hch hvt hdi hgg hm x0 x1 x2 hcell
    cases hf : rfirst (i : Int) x l2 with
    | none =>
      have HFN := Lib.hid hf
      have hC1 := HF.out none hf
      have HC1 := Lib.hid hC1
      clear hC1 hf
      go_wp2_with fail
      refine HC1.out.mono ?_
      rintro e w1 ⟨rfl, hb1⟩
      have HB1 := Lib.hid hb1
      clear hb1
      simp only [bestC, Option.isSome_none]
      go_wp2
      go_ret
      obtain ⟨e1, e2⟩ := HDI.out.done HFN.out
      have hb2 := HB1.out.alloc HB1.out.size (.cells #[.int .i64 0, .int .i64 0, .int .u64 0] 73)
      refine ⟨_, vt', l2, rfl, ?_, HR.out.after hb2, HCH.out.trans (Sub.refl _ _) (Chg.below hb2), HVT.out, e2, e1 ▸ HDI.out⟩
      rw [← e1, HM.out]
      exact own_after HROW.out hb2
    | some t =>
      have HFS := Lib.hid hf
      have hC1 := HF.out (some t) hf
      have HC1 := Lib.hid hC1
      obtain ⟨ti, ta⟩ := t
      clear hC1 hf
      go_wp2_with fail
      refine HC1.out.mono ?_
      rintro e w1 ⟨rfl, hb1⟩
      have HB1 := Lib.hid hb1
      clear hb1
      simp only [bestC, Option.isSome_some]
      have hK : ∀ (w4 : World), ((w1.alloc (.cells #[.int .i64 (i : Int), .int .i64 ti, .int .u64 (ta : Int)] 73)).alloc (.cells #[.int .i64 ti] 3)).grownBy w4 (Value.slice E m e0).ownBlock → Blk w4 w1.heap.size 73 #[.int .i64 (i : Int), .int .i64 ti, .int .u64 (ta : Int)] ∧ RS w4 g vn (.slice (some ⟨b, 0, none⟩) P.length c) vt' N P l2 ∧ Chg (ROwn g vn (.slice (some ⟨b, 0, none⟩) P.length c) vt) w w4 := fun w4 g4 => by
        have hrow1 := own_alloc' (own_alloc' (own_after HROW.out HB1.out) (.cells #[.int .i64 (i : Int), .int .i64 ti, .int .u64 (ta : Int)] 73)) (.cells #[.int .i64 ti] 3)
        refine ⟨((Blk.new w1 _ _).alloc _).grown g4 fun e => ?_, ((((HR.out.after HB1.out).alloc _).alloc _).ints hrow1 g4), Chg.low (HCH.out.same (Chg.below ((HB1.out.alloc HB1.out.size _).alloc (by have := HB1.out.size; simp only [alloc_size]; omega) _))) g4 fun b' hb' => (HROW.out.lt b' hb').1⟩
        have := (HROW.out.lt _ e.symm).2
        have := HB1.out.size
        omega
      have HK := Lib.hid hK
      clear hK
      have hwg : g < w1.heap.size := by have := HB1.out.size; have := HCH.out.size; omega
      go_wp2_with (at_builtin; refine wpList_app _ rfl (.tmp 35) (.tmp 38) 33 rfl w.heap.size 3 i0 _ 1 8 Try.underlying33 hi0 hz0 hz1 hz2 rfl (by omega) (.slice E m e0) m (ids out) rfl (by exact own_alloc' (own_alloc' (own_after HROW.out HB1.out) _) _) (w1.heap.size + 1) (w1.heap.size + 1 + 1) (some ⟨w1.heap.size + 1, 0, none⟩) 1 1 [.int .i64 ti] rfl (by have := sl_one (w1.alloc (.cells #[.int .i64 (i : Int), .int .i64 ti, .int .u64 (ta : Int)] 73)) (.int .i64 ti) 3; rw [alloc_size] at this; exact this) (by intro u hu; rw [List.mem_singleton.1 hu]; rfl) (by simp only [maxLen]; omega) (by omega) (by have := HB1.out.size; have := HCH.out.size; simp only [alloc_size]; omega) ?_; intro v4 w4 o4 g4 a4; obtain ⟨hT, hR4, hC4⟩ := HK.out w4 g4; obtain ⟨y0, y1, y2⟩ := hT.c3; have hW := rwithout_any (i : Int) ti hR4; have HW := Lib.hid hW; have HR4 := Lib.hid hR4; have HC4 := Lib.hid hC4; have HO4 := Lib.hid o4; clear hT hR4 hC4 hW o4 g4 a4)
      refine HW.out.mono ?_
      rintro e w5 ⟨D, d, rfl, hown, hb5⟩
      have HO5 := Lib.hid hown
      have HB5 := Lib.hid hb5
      obtain ⟨k0, k1, k2⟩ := (HR4.out.blk.after hb5).c3
      have f2 := (HR4.out.blk.after hb5).frozen 2
      have hrl : (rwo (i : Int) ti l2).length ≤ 1000 := Nat.le_trans (rwo_len _ _ _) HR4.out.len
      obtain ⟨L, hL⟩ : ∃ L, rwo (i : Int) ti l2 = L := ⟨_, rfl⟩
      simp only [hL] at hrl HO5 ⊢
      have HL := Lib.hid hL
      clear hown hb5 hL
      generalize (rsel (i : Int) l2).length = mm
      generalize l2.any (isT (i : Int) ti) = zz
      obtain ⟨m1, hm1⟩ : ∃ m1, L.length = m1 := ⟨_, rfl⟩
      have HM1 := Lib.hid hm1
      have hown5 := HO5.out
      simp only [hm1] at hrl hown5 ⊢
      have HO6 := Lib.hid hown5
      clear hown5 hm1
      go_wp2
      go_roundg (rlate (i : Int) x (rwo (i : Int) ti l2)).length
      case measure => exact Nat.lt_of_lt_of_le (HDI.out.less HFS.out) HGG.out
      case rel =>
        obtain ⟨q1, q2, q3⟩ := HR4.out.store (v4 := .slice D m1 d) (l' := L) HB5.out (by rw [HM1.out]; exact HO6.out) (fun t ht => HR4.out.bl t (rwo_sub (nd := (i : Int)) (id := ti) (by rw [HL.out]; exact ht))) (by rw [HM1.out]; exact hrl)
        refine ⟨out ++ [(ti, ta)], rwo (i : Int) ti l2, .slice D m1 d, Nat.le_refl _, ?_, ?_, ?_, fun b' hb' => .inr (by have := q3 b' hb'; have := HC4.out.size; omega), HDI.out.step HFS.out⟩
        · have hng : v4.ownBlock ≠ some g := fun e => by have := (HO4.out.lt g e).1; omega
          have e1 : ids (out ++ [(ti, ta)]) = ids out ++ [.int .i64 ti] := by unfold ids; rw [List.map_append]; rfl
          rw [e1, List.length_append, HM.out]
          exact own_far (own_after HO4.out HB5.out) hng _ _
        · rw [HL.out]; exact q1
        · refine HC4.out.trans (fun k hk => ?_) q2
          rcases hk with h1 | h1 | h1 | h1
          · exact .inl (.inl h1)
          · exact .inl (.inr (.inl h1))
          · exact .inl (.inr (.inr (.inl h1)))
          · rcases HVT.out k h1 with h2 | h2
            · exact .inl (.inr (.inr (.inr h2)))
            · exact .inr h2
end
end Go.Proofs.Ytcocakbopbehjaa
