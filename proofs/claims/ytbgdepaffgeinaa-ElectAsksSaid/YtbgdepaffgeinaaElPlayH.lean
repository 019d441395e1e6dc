/- A node of a group has heard of a leader, or not; other things. -/
import Derived.Test.YtbgdepaffgeinaaElPlay
import Derived.Test.YtbgdepaffgeinaaElHear
import Derived.Deep.DeepCutAuto
namespace Go.Proofs.Ytbgdepaffgeinaa
open Go.RowKit
section
variable {H : Nat} {w : World} {g : Nat} {r : GR} {xs : List GN} {G : GP}
set_option maxRecDepth 100000 in
set_option maxHeartbeats 6400000 in
theorem play_heard (i : Nat) (x : ND) (w : World) (h : GrpP H w g r xs G) (hi : G.nodes[i]? = some x) (hn5 : G.nodes.length ≤ 5) (hm : G.msgs.length ≤ 10000) (ht : G.terms.length ≤ 10000) (hl : G.leads.length ≤ 10000) :
    Calls Try.prog 45 #[.pointer (some ⟨g, 0, none⟩), .agg #[.int .i64 4, .int .i64 (i : Int)]] w fun e w' => e = .returned (.tuple #[]) ∧ ∃ r' xs', GrpP H w' g r' xs' (G.done i ({ x with heard := true }, ([] : List Ms))) ∧ Chg (GrpOwn r g xs) w w' := by
  obtain ⟨y, hy, rfl⟩ := h.nodeAt hi
  have x0 : w.cell? ⟨g, 0, none⟩ = some r.nv := h.blk.cell 0
  obtain ⟨ad, c, hv, hp, hcap, hmax⟩ := h.ptr hy
  rw [hv] at x0
  have hgl := h.blk.lt
  have hne : g ≠ w.heap.size := by omega
  have hil := (List.getElem?_eq_some_iff.1 hy).1
  have hxl := h.len
  have hN := h.node y (List.mem_of_getElem? hy)
  have hbl := hN.blk.lt
  have hne2 : y.b ≠ w.heap.size := by omega
  have hp' := cell_below ((Below.refl w.heap.size w).alloc (Nat.le_refl _) (.cells #[.int .i64 4, .int .i64 (i : Int)] 78)) hp
  have x11 : w.cell? ⟨y.b, 11, none⟩ = some (.bool y.x.heard) := hN.blk.cell 11
  have f11 := hN.blk.frozen 11
  have HH := Lib.hid h
  have HN0 := Lib.hid hN
  clear h hv hN
  generalize hnn : xs.length = n at x0 hil hcap
  have HNN := Lib.hid hnn
  clear hnn
  have hN2 : NodeP H ((w.setCell ⟨y.b, 11, none⟩ (.bool true)).alloc (.cells #[.int .i64 4, .int .i64 (i : Int)] 78)) y.O y.b y.p { y.x with heard := true } := (HN0.out.put (x' := { y.x with heard := true }) (only_setCell (World.grownBy.refl w (some y.b)) 11 (.bool true)) (by have := HN0.out.blk.set_ 11 (.bool true); simpa [NP.cells] using this) rfl rfl rfl rfl rfl).alloc _
  have hC2 : Chg y.O w ((w.setCell ⟨y.b, 11, none⟩ (.bool true)).alloc (.cells #[.int .i64 4, .int .i64 (i : Int)] 78)) := (Chg.set HN0.out.bO 11 (.bool true)).same (Chg.below ((Below.refl _ _).alloc (Nat.le_refl _) _))
  have HA1 : Hid (Aft w w) := Aft.refl w
  have hrow : World.ownsRow ((w.setCell ⟨y.b, 11, none⟩ (.bool true)).alloc (.cells #[.int .i64 4, .int .i64 (i : Int)] 78)) w.heap.size 81 10 (.slice none 0 0) ([] : List Ms).length (mcells []) := World.ownsRow_nil _ _ _ _
  have hS2 : Sub y.O w y.O := Sub.refl _ _
  have hms : ([] : List Ms).length ≤ 1000 := Nat.zero_le _
  have hapart : ∀ k, (Value.slice none 0 0).ownBlock = some k → ¬ y.O k := fun k hk => by cases hk
  generalize { y.x with heard := true } = x1 at hN2 ⊢
  go_enter Try.func45, Try.ntmps45
  go_upto_region 21 with fail
  generalize hw2 : ((w.setCell ⟨y.b, 11, none⟩ (.bool true)).alloc (.cells #[.int .i64 4, .int .i64 (i : Int)] 78)) = w2 at hN2 hC2 hrow ⊢
  clear hw2
  have hg1 := HH.out.after HA1.out
  have hg2 := hg1.turn hy hN2 hS2 hC2
  obtain ⟨i0, hi0, hz0, hz1, hz2⟩ := info_parts msg_info
  obtain ⟨Am, cm, hmv, -⟩ := own_sl hg2.msgs
  obtain ⟨Ao, co, hov, hso⟩ := own_sl hrow
  obtain ⟨rfl, -, rfl⟩ := (Value.slice.injEq _ _ _ _ _ _).mp hov
  clear hov
  have z1 : w2.cell? ⟨g, 1, none⟩ = some r.mv := hg2.blk.cell 1
  rw [hmv] at z1
  have hml : ([] : List Ms).length ≤ 1000 := hms
  have HMS : Hid (w2.ownsRow H 81 10 (.slice Am G.msgs.length cm) G.msgs.length (mcells G.msgs)) := by have := hg2.msgs; rw [hmv] at this; exact this
  have HG2 := Lib.hid hg2
  have HSO := Lib.hid hso
  have HN2 := Lib.hid hN2
  have HB2 := Lib.hid hg2.blk
  have HNB := Lib.hid hN2.blk
  have hHs : H ≤ w2.heap.size := Nat.le_trans hg2.hg (Nat.le_of_lt hg2.blk.lt)
  have hrg : r.mv.ownBlock ≠ some g := row_ne hg2.msgs hg2.blk (by decide)
  have hry : r.mv.ownBlock ≠ some y.b := row_ne hg2.msgs hN2.blk (by decide)
  have hgy : y.b ≠ g := hN2.blk.ne hg2.blk (by decide)
  rw [hmv] at hrg hry
  have HRG := Lib.hid hrg
  have HRY := Lib.hid hry
  have hb2 : w2.cell? ⟨y.b, 2, none⟩ = some (.int .i64 x1.role) := hN2.blk.cell 2
  have hb6 : w2.cell? ⟨y.b, 6, none⟩ = some (.int .u64 (x1.term : Int)) := hN2.blk.cell 6
  have HBEL : Hid (Chg (GrpOwn r g xs) w w2) := (Chg.below HA1.out).same (hC2.mono fun k hk => .inr ⟨y, List.mem_of_getElem? hy, hk⟩)
  clear hg1 hg2 hN2 hS2 hC2 hrow hapart hso hrg hry
  by_cases hr3 : x1.role = 3
  · have HR3 := Lib.hid hr3
    have er : (x1.role == 3) = true := by simp [hr3]
    clear hr3
    go_wp2_with (at_builtin; refine wpList_app _ rfl (.tmp 96) (.tmp 97) 57 rfl H 81 i0 _ 10 112 Try.underlying57 hi0 hz0 hz1 hz2 rfl (by omega) (.slice Am G.msgs.length cm) G.msgs.length (mcells G.msgs) rfl HMS.out _ _ none ([] : List Ms).length 0 (mcells ([] : List Ms)) rfl HSO.out (mcs_one _) (by simp only [maxLen]; omega) (by omega) hHs ?_; intro v4 w4 o4 g4 a4; have hq4 := HB2.out.grown g4 (fun e => HRG.out e.symm); have hn4 := HNB.out.grown g4 (fun e => HRY.out e.symm); have u1 : w4.cell? ⟨g, 1, none⟩ = some r.mv := hq4.cell 1; have uf1 := hq4.frozen 1; have u2 : w4.cell? ⟨g, 2, none⟩ = some r.tv := hq4.cell 2; have u3 : w4.cell? ⟨g, 3, none⟩ = some r.lv := hq4.cell 3; have uf2 := hq4.frozen 2; have uf3 := hq4.frozen 3; have b2 : w4.cell? ⟨y.b, 2, none⟩ = some (.int .i64 x1.role) := hn4.cell 2; have b6 : w4.cell? ⟨y.b, 6, none⟩ = some (.int .u64 (x1.term : Int)) := hn4.cell 6; have HQ4 := Lib.hid hq4; have HNN4 := Lib.hid hn4; obtain ⟨A4, c4, hv4, -⟩ := own_sl o4; subst hv4; clear hq4 hn4)
    obtain ⟨hgA, hcA⟩ := HG2.out.msgs_ (ms := ([] : List Ms)) (Below.refl _ _) (by rw [mcells_append]; show World.ownsRow _ _ _ _ _ (G.msgs ++ ([] : List Ms)).length _; rw [List.length_append]; exact o4) (by rw [hmv]; exact g4) (by rw [hmv]; rcases a4 with a4 | a4; exact .inl a4; exact .inr fun k hk => by rw [a4] at hk; injection hk with hk; omega)
    obtain ⟨j0, hj0, hy0, hy1, hy2⟩ := info_parts u64_info
    obtain ⟨At, ct, htv, -⟩ := own_sl hgA.terms
    have hBn := (HNN4.out.far (p := ⟨g, 1, none⟩) hgy (.slice A4 (G.msgs.length + ([] : List Ms).length) c4))
    generalize hwA : w4.setCell ⟨g, 1, none⟩ (.slice A4 (G.msgs.length + ([] : List Ms).length) c4) = wA at hgA hcA hBn ⊢
    have t2 : wA.cell? ⟨g, 2, none⟩ = some r.tv := hgA.blk.cell 2
    rw [htv] at t2
    have t6 : wA.cell? ⟨y.b, 6, none⟩ = some (.int .u64 (x1.term : Int)) := hBn.cell 6
    have hga : g < wA.heap.size := hgA.blk.lt
    have hba : y.b < wA.heap.size := hBn.lt
    have HTS : Hid (wA.ownsRow H 22 1 (.slice At G.terms.length ct) G.terms.length (G.terms.map uv)) := by have := hgA.terms; rw [htv] at this; exact this
    have hrt : r.tv.ownBlock ≠ some g := row_ne hgA.terms hgA.blk (by decide)
    rw [htv] at hrt
    have HRT := Lib.hid hrt
    have HGA := Lib.hid hgA
    have HGB := Lib.hid hgA.blk
    have HCA := Lib.hid hcA
    have hHa : H ≤ wA.heap.size := Nat.le_trans hgA.hg (Nat.le_of_lt hga)
    clear hwA hgA hcA hBn hrt o4 g4 a4 u1 uf1 u2 u3 uf2 uf3 b2 b6 hb2 hb6 z1
    go_region_law (refine step_app _ rfl (.tmp 110) (.tmp 115) 70 rfl H 22 j0 _ 1 8 Try.underlying70 hj0 hy0 hy1 hy2 rfl (by omega) (.slice At G.terms.length ct) G.terms.length (G.terms.map uv) (by simp [Act.eval, Act.put]) (by first | exact own_alloc' HTS.out _ | exact own_drewN (own_alloc' HTS.out _) 1) wA.heap.size (wA.heap.size + 1) (some ⟨wA.heap.size, 0, none⟩) 1 1 [.int .u64 (x1.term : Int)] (by simp [Act.eval, Act.put]) (by first | exact sl_one _ _ _ | exact (sl_one _ _ _).drew) (by intro u hu; rw [List.mem_singleton.1 hu]; rfl) (by simp only [maxLen]; omega) (by omega) (by simp; omega) ?_; intro v5 w5 o5 g5 a5; have hb5 := Blk.grown (by first | exact HGB.out.alloc _ | exact (HGB.out.alloc _).drew) g5 (fun e => HRT.out e.symm); have s2 : w5.cell? ⟨g, 2, none⟩ = some r.tv := hb5.cell 2; have sf2 := hb5.frozen 2; obtain ⟨A5, c5, hv5, -⟩ := own_sl o5; subst hv5; clear hb5)
    all_goals
      obtain ⟨hgB, hcB⟩ := HGA.out.terms_ (ts := [x1.term]) (wq := (wA.alloc (.cells #[.int .u64 (x1.term : Int)] 22)).drew) ((Below.refl _ wA).alloc (Nat.le_refl _) _).drew (by rw [List.map_append]; show World.ownsRow _ _ _ _ _ (G.terms ++ [x1.term]).length _; rw [List.length_append]; exact o5) (by rw [htv]; exact g5) (by rw [htv]; rcases a5 with a5 | a5; exact .inl a5; exact .inr fun k hk => by rw [a5] at hk; injection hk with hk; simp at hk; omega)
      obtain ⟨Al, cl, hlv, -⟩ := own_sl hgB.leads
      obtain ⟨k0, hk0, hw0, hw1, hw2⟩ := info_parts int_info
      generalize hwB : w5.setCell ⟨g, 2, none⟩ (.slice A5 (G.terms.length + 1) c5) = wB at hgB hcB ⊢
      have l3 : wB.cell? ⟨g, 3, none⟩ = some r.lv := hgB.blk.cell 3
      rw [hlv] at l3
      have hgb : g < wB.heap.size := hgB.blk.lt
      have HLS : Hid (wB.ownsRow H 3 1 (.slice Al G.leads.length cl) G.leads.length (G.leads.map iv)) := by have := hgB.leads; rw [hlv] at this; exact this
      have hrl : r.lv.ownBlock ≠ some g := row_ne hgB.leads hgB.blk (by decide)
      rw [hlv] at hrl
      have HRL := Lib.hid hrl
      have HGC := Lib.hid hgB
      have HGD := Lib.hid hgB.blk
      have HCB := Lib.hid hcB
      have hHb : H ≤ wB.heap.size := Nat.le_trans hgB.hg (Nat.le_of_lt hgb)
      clear hwB hgB hcB hrl o5 g5 a5 s2 sf2 t2 t6
      go_wp2_with (at_builtin; refine wpList_app _ rfl (.tmp 123) (.tmp 125) 51 rfl H 3 k0 _ 1 8 Try.underlying51 hk0 hw0 hw1 hw2 rfl (by omega) (.slice Al G.leads.length cl) G.leads.length (G.leads.map iv) rfl (by exact own_alloc' HLS.out _) wB.heap.size (wB.heap.size + 1) (some ⟨wB.heap.size, 0, none⟩) 1 1 [.int .i64 (i : Int)] rfl (by exact sl_one _ _ _) (by intro u hu; rw [List.mem_singleton.1 hu]; rfl) (by simp only [maxLen]; omega) (by omega) (by simp; omega) ?_; intro v6 w6 o6 g6 a6; have hb6 := Blk.grown (HGD.out.alloc _) g6 (fun e => HRL.out e.symm); have s3 : w6.cell? ⟨g, 3, none⟩ = some r.lv := hb6.cell 3; have sf3 := hb6.frozen 3; obtain ⟨A6, c6, hv6, -⟩ := own_sl o6; subst hv6; clear hb6)
      go_end0
      obtain ⟨hgC, hcC⟩ := HGC.out.leads_ (ls := [(i : Int)]) (wq := wB.alloc (.cells #[.int .i64 (i : Int)] 3)) ((Below.refl _ wB).alloc (Nat.le_refl _) _) (by rw [List.map_append]; show World.ownsRow _ _ _ _ _ (G.leads ++ [(i : Int)]).length _; rw [List.length_append]; exact o6) (by rw [hlv]; exact g6) (by rw [hlv]; rcases a6 with a6 | a6; exact .inl a6; exact .inr fun k hk => by rw [a6] at hk; injection hk with hk; rw [← hk]; simp)
      have hd : G.done i (x1, []) = { G with nodes := G.nodes.set i x1, msgs := G.msgs ++ ([] : List Ms), terms := G.terms ++ [x1.term], leads := G.leads ++ [(i : Int)] } := by unfold GP.done; rw [if_pos HR3.out, if_pos HR3.out]
      rw [hd]
      have hbb := ((HBEL.out.same (HCA.out.mono fun k hk => hk.elim (fun e => .inl (.inl e)) fun e => .inl (.inr (.inr (.inl e))))).same (HCB.out.mono fun k hk => hk.elim (fun e => .inl (.inl e)) fun e => .inl (.inr (.inr (.inr (.inl e)))))).same (hcC.mono fun k hk => hk.elim (fun e => .inl (.inl e)) fun e => .inl (.inr (.inr (.inr (.inr e)))))
      first | exact ⟨rfl, _, _, hgC, hbb⟩ | exact ⟨rfl, ⟨_, _, hgC⟩, hbb⟩
  · have HR3 := Lib.hid hr3
    have er : (x1.role == 3) = false := by simp [hr3]
    clear hr3
    go_wp2_with (at_builtin; refine wpList_app _ rfl (.tmp 96) (.tmp 97) 57 rfl H 81 i0 _ 10 112 Try.underlying57 hi0 hz0 hz1 hz2 rfl (by omega) (.slice Am G.msgs.length cm) G.msgs.length (mcells G.msgs) rfl HMS.out _ _ none ([] : List Ms).length 0 (mcells ([] : List Ms)) rfl HSO.out (mcs_one _) (by simp only [maxLen]; omega) (by omega) hHs ?_; intro v4 w4 o4 g4 a4; have hq4 := HB2.out.grown g4 (fun e => HRG.out e.symm); have hn4 := HNB.out.grown g4 (fun e => HRY.out e.symm); have u1 : w4.cell? ⟨g, 1, none⟩ = some r.mv := hq4.cell 1; have uf1 := hq4.frozen 1; have u2 : w4.cell? ⟨g, 2, none⟩ = some r.tv := hq4.cell 2; have u3 : w4.cell? ⟨g, 3, none⟩ = some r.lv := hq4.cell 3; have uf2 := hq4.frozen 2; have uf3 := hq4.frozen 3; have b2 : w4.cell? ⟨y.b, 2, none⟩ = some (.int .i64 x1.role) := hn4.cell 2; have b6 : w4.cell? ⟨y.b, 6, none⟩ = some (.int .u64 (x1.term : Int)) := hn4.cell 6; have HQ4 := Lib.hid hq4; have HNN4 := Lib.hid hn4; obtain ⟨A4, c4, hv4, -⟩ := own_sl o4; subst hv4; clear hq4 hn4)
    obtain ⟨hgA, hcA⟩ := HG2.out.msgs_ (ms := ([] : List Ms)) (Below.refl _ _) (by rw [mcells_append]; show World.ownsRow _ _ _ _ _ (G.msgs ++ ([] : List Ms)).length _; rw [List.length_append]; exact o4) (by rw [hmv]; exact g4) (by rw [hmv]; rcases a4 with a4 | a4; exact .inl a4; exact .inr fun k hk => by rw [a4] at hk; injection hk with hk; omega)
    go_end0
    have hd : G.done i (x1, []) = { G with nodes := G.nodes.set i x1, msgs := G.msgs ++ ([] : List Ms) } := by unfold GP.done; rw [if_neg HR3.out, if_neg HR3.out]
    rw [hd]
    first | exact ⟨rfl, _, _, hgA, HBEL.out.same (hcA.mono fun k hk => hk.elim (fun e => .inl (.inl e)) fun e => .inl (.inr (.inr (.inl e))))⟩ | exact ⟨rfl, ⟨_, _, hgA⟩, HBEL.out.same (hcA.mono fun k hk => hk.elim (fun e => .inl (.inl e)) fun e => .inl (.inr (.inr (.inl e))))⟩
set_option maxRecDepth 100000 in
set_option maxHeartbeats 6400000 in
theorem play_deaf (i : Nat) (x : ND) (w : World) (h : GrpP H w g r xs G) (hi : G.nodes[i]? = some x) (hn5 : G.nodes.length ≤ 5) (hm : G.msgs.length ≤ 10000) (ht : G.terms.length ≤ 10000) (hl : G.leads.length ≤ 10000) :
    Calls Try.prog 45 #[.pointer (some ⟨g, 0, none⟩), .agg #[.int .i64 5, .int .i64 (i : Int)]] w fun e w' => e = .returned (.tuple #[]) ∧ ∃ r' xs', GrpP H w' g r' xs' (G.done i ({ x with heard := false }, ([] : List Ms))) ∧ Chg (GrpOwn r g xs) w w' := by
  obtain ⟨y, hy, rfl⟩ := h.nodeAt hi
  have x0 : w.cell? ⟨g, 0, none⟩ = some r.nv := h.blk.cell 0
  obtain ⟨ad, c, hv, hp, hcap, hmax⟩ := h.ptr hy
  rw [hv] at x0
  have hgl := h.blk.lt
  have hne : g ≠ w.heap.size := by omega
  have hil := (List.getElem?_eq_some_iff.1 hy).1
  have hxl := h.len
  have hN := h.node y (List.mem_of_getElem? hy)
  have hbl := hN.blk.lt
  have hne2 : y.b ≠ w.heap.size := by omega
  have hp' := cell_below ((Below.refl w.heap.size w).alloc (Nat.le_refl _) (.cells #[.int .i64 5, .int .i64 (i : Int)] 78)) hp
  have x11 : w.cell? ⟨y.b, 11, none⟩ = some (.bool y.x.heard) := hN.blk.cell 11
  have f11 := hN.blk.frozen 11
  have HH := Lib.hid h
  have HN0 := Lib.hid hN
  clear h hv hN
  generalize hnn : xs.length = n at x0 hil hcap
  have HNN := Lib.hid hnn
  clear hnn
  have hN2 : NodeP H ((w.setCell ⟨y.b, 11, none⟩ (.bool false)).alloc (.cells #[.int .i64 5, .int .i64 (i : Int)] 78)) y.O y.b y.p { y.x with heard := false } := (HN0.out.put (x' := { y.x with heard := false }) (only_setCell (World.grownBy.refl w (some y.b)) 11 (.bool false)) (by have := HN0.out.blk.set_ 11 (.bool false); simpa [NP.cells] using this) rfl rfl rfl rfl rfl).alloc _
  have hC2 : Chg y.O w ((w.setCell ⟨y.b, 11, none⟩ (.bool false)).alloc (.cells #[.int .i64 5, .int .i64 (i : Int)] 78)) := (Chg.set HN0.out.bO 11 (.bool false)).same (Chg.below ((Below.refl _ _).alloc (Nat.le_refl _) _))
  have HA1 : Hid (Aft w w) := Aft.refl w
  have hrow : World.ownsRow ((w.setCell ⟨y.b, 11, none⟩ (.bool false)).alloc (.cells #[.int .i64 5, .int .i64 (i : Int)] 78)) w.heap.size 81 10 (.slice none 0 0) ([] : List Ms).length (mcells []) := World.ownsRow_nil _ _ _ _
  have hS2 : Sub y.O w y.O := Sub.refl _ _
  have hms : ([] : List Ms).length ≤ 1000 := Nat.zero_le _
  have hapart : ∀ k, (Value.slice none 0 0).ownBlock = some k → ¬ y.O k := fun k hk => by cases hk
  generalize { y.x with heard := false } = x1 at hN2 ⊢
  go_enter Try.func45, Try.ntmps45
  go_upto_region 21 with fail
  generalize hw2 : ((w.setCell ⟨y.b, 11, none⟩ (.bool false)).alloc (.cells #[.int .i64 5, .int .i64 (i : Int)] 78)) = w2 at hN2 hC2 hrow ⊢
  clear hw2
  have hg1 := HH.out.after HA1.out
  have hg2 := hg1.turn hy hN2 hS2 hC2
  obtain ⟨i0, hi0, hz0, hz1, hz2⟩ := info_parts msg_info
  obtain ⟨Am, cm, hmv, -⟩ := own_sl hg2.msgs
  obtain ⟨Ao, co, hov, hso⟩ := own_sl hrow
  obtain ⟨rfl, -, rfl⟩ := (Value.slice.injEq _ _ _ _ _ _).mp hov
  clear hov
  have z1 : w2.cell? ⟨g, 1, none⟩ = some r.mv := hg2.blk.cell 1
  rw [hmv] at z1
  have hml : ([] : List Ms).length ≤ 1000 := hms
  have HMS : Hid (w2.ownsRow H 81 10 (.slice Am G.msgs.length cm) G.msgs.length (mcells G.msgs)) := by have := hg2.msgs; rw [hmv] at this; exact this
  have HG2 := Lib.hid hg2
  have HSO := Lib.hid hso
  have HN2 := Lib.hid hN2
  have HB2 := Lib.hid hg2.blk
  have HNB := Lib.hid hN2.blk
  have hHs : H ≤ w2.heap.size := Nat.le_trans hg2.hg (Nat.le_of_lt hg2.blk.lt)
  have hrg : r.mv.ownBlock ≠ some g := row_ne hg2.msgs hg2.blk (by decide)
  have hry : r.mv.ownBlock ≠ some y.b := row_ne hg2.msgs hN2.blk (by decide)
  have hgy : y.b ≠ g := hN2.blk.ne hg2.blk (by decide)
  rw [hmv] at hrg hry
  have HRG := Lib.hid hrg
  have HRY := Lib.hid hry
  have hb2 : w2.cell? ⟨y.b, 2, none⟩ = some (.int .i64 x1.role) := hN2.blk.cell 2
  have hb6 : w2.cell? ⟨y.b, 6, none⟩ = some (.int .u64 (x1.term : Int)) := hN2.blk.cell 6
  have HBEL : Hid (Chg (GrpOwn r g xs) w w2) := (Chg.below HA1.out).same (hC2.mono fun k hk => .inr ⟨y, List.mem_of_getElem? hy, hk⟩)
  clear hg1 hg2 hN2 hS2 hC2 hrow hapart hso hrg hry
  by_cases hr3 : x1.role = 3
  · have HR3 := Lib.hid hr3
    have er : (x1.role == 3) = true := by simp [hr3]
    clear hr3
    go_wp2_with (at_builtin; refine wpList_app _ rfl (.tmp 96) (.tmp 97) 57 rfl H 81 i0 _ 10 112 Try.underlying57 hi0 hz0 hz1 hz2 rfl (by omega) (.slice Am G.msgs.length cm) G.msgs.length (mcells G.msgs) rfl HMS.out _ _ none ([] : List Ms).length 0 (mcells ([] : List Ms)) rfl HSO.out (mcs_one _) (by simp only [maxLen]; omega) (by omega) hHs ?_; intro v4 w4 o4 g4 a4; have hq4 := HB2.out.grown g4 (fun e => HRG.out e.symm); have hn4 := HNB.out.grown g4 (fun e => HRY.out e.symm); have u1 : w4.cell? ⟨g, 1, none⟩ = some r.mv := hq4.cell 1; have uf1 := hq4.frozen 1; have u2 : w4.cell? ⟨g, 2, none⟩ = some r.tv := hq4.cell 2; have u3 : w4.cell? ⟨g, 3, none⟩ = some r.lv := hq4.cell 3; have uf2 := hq4.frozen 2; have uf3 := hq4.frozen 3; have b2 : w4.cell? ⟨y.b, 2, none⟩ = some (.int .i64 x1.role) := hn4.cell 2; have b6 : w4.cell? ⟨y.b, 6, none⟩ = some (.int .u64 (x1.term : Int)) := hn4.cell 6; have HQ4 := Lib.hid hq4; have HNN4 := Lib.hid hn4; obtain ⟨A4, c4, hv4, -⟩ := own_sl o4; subst hv4; clear hq4 hn4)
    obtain ⟨hgA, hcA⟩ := HG2.out.msgs_ (ms := ([] : List Ms)) (Below.refl _ _) (by rw [mcells_append]; show World.ownsRow _ _ _ _ _ (G.msgs ++ ([] : List Ms)).length _; rw [List.length_append]; exact o4) (by rw [hmv]; exact g4) (by rw [hmv]; rcases a4 with a4 | a4; exact .inl a4; exact .inr fun k hk => by rw [a4] at hk; injection hk with hk; omega)
    obtain ⟨j0, hj0, hy0, hy1, hy2⟩ := info_parts u64_info
    obtain ⟨At, ct, htv, -⟩ := own_sl hgA.terms
    have hBn := (HNN4.out.far (p := ⟨g, 1, none⟩) hgy (.slice A4 (G.msgs.length + ([] : List Ms).length) c4))
    generalize hwA : w4.setCell ⟨g, 1, none⟩ (.slice A4 (G.msgs.length + ([] : List Ms).length) c4) = wA at hgA hcA hBn ⊢
    have t2 : wA.cell? ⟨g, 2, none⟩ = some r.tv := hgA.blk.cell 2
    rw [htv] at t2
    have t6 : wA.cell? ⟨y.b, 6, none⟩ = some (.int .u64 (x1.term : Int)) := hBn.cell 6
    have hga : g < wA.heap.size := hgA.blk.lt
    have hba : y.b < wA.heap.size := hBn.lt
    have HTS : Hid (wA.ownsRow H 22 1 (.slice At G.terms.length ct) G.terms.length (G.terms.map uv)) := by have := hgA.terms; rw [htv] at this; exact this
    have hrt : r.tv.ownBlock ≠ some g := row_ne hgA.terms hgA.blk (by decide)
    rw [htv] at hrt
    have HRT := Lib.hid hrt
    have HGA := Lib.hid hgA
    have HGB := Lib.hid hgA.blk
    have HCA := Lib.hid hcA
    have hHa : H ≤ wA.heap.size := Nat.le_trans hgA.hg (Nat.le_of_lt hga)
    clear hwA hgA hcA hBn hrt o4 g4 a4 u1 uf1 u2 u3 uf2 uf3 b2 b6 hb2 hb6 z1
    go_region_law (refine step_app _ rfl (.tmp 110) (.tmp 115) 70 rfl H 22 j0 _ 1 8 Try.underlying70 hj0 hy0 hy1 hy2 rfl (by omega) (.slice At G.terms.length ct) G.terms.length (G.terms.map uv) (by simp [Act.eval, Act.put]) (by first | exact own_alloc' HTS.out _ | exact own_drewN (own_alloc' HTS.out _) 1) wA.heap.size (wA.heap.size + 1) (some ⟨wA.heap.size, 0, none⟩) 1 1 [.int .u64 (x1.term : Int)] (by simp [Act.eval, Act.put]) (by first | exact sl_one _ _ _ | exact (sl_one _ _ _).drew) (by intro u hu; rw [List.mem_singleton.1 hu]; rfl) (by simp only [maxLen]; omega) (by omega) (by simp; omega) ?_; intro v5 w5 o5 g5 a5; have hb5 := Blk.grown (by first | exact HGB.out.alloc _ | exact (HGB.out.alloc _).drew) g5 (fun e => HRT.out e.symm); have s2 : w5.cell? ⟨g, 2, none⟩ = some r.tv := hb5.cell 2; have sf2 := hb5.frozen 2; obtain ⟨A5, c5, hv5, -⟩ := own_sl o5; subst hv5; clear hb5)
    all_goals
      obtain ⟨hgB, hcB⟩ := HGA.out.terms_ (ts := [x1.term]) (wq := (wA.alloc (.cells #[.int .u64 (x1.term : Int)] 22)).drew) ((Below.refl _ wA).alloc (Nat.le_refl _) _).drew (by rw [List.map_append]; show World.ownsRow _ _ _ _ _ (G.terms ++ [x1.term]).length _; rw [List.length_append]; exact o5) (by rw [htv]; exact g5) (by rw [htv]; rcases a5 with a5 | a5; exact .inl a5; exact .inr fun k hk => by rw [a5] at hk; injection hk with hk; simp at hk; omega)
      obtain ⟨Al, cl, hlv, -⟩ := own_sl hgB.leads
      obtain ⟨k0, hk0, hw0, hw1, hw2⟩ := info_parts int_info
      generalize hwB : w5.setCell ⟨g, 2, none⟩ (.slice A5 (G.terms.length + 1) c5) = wB at hgB hcB ⊢
      have l3 : wB.cell? ⟨g, 3, none⟩ = some r.lv := hgB.blk.cell 3
      rw [hlv] at l3
      have hgb : g < wB.heap.size := hgB.blk.lt
      have HLS : Hid (wB.ownsRow H 3 1 (.slice Al G.leads.length cl) G.leads.length (G.leads.map iv)) := by have := hgB.leads; rw [hlv] at this; exact this
      have hrl : r.lv.ownBlock ≠ some g := row_ne hgB.leads hgB.blk (by decide)
      rw [hlv] at hrl
      have HRL := Lib.hid hrl
      have HGC := Lib.hid hgB
      have HGD := Lib.hid hgB.blk
      have HCB := Lib.hid hcB
      have hHb : H ≤ wB.heap.size := Nat.le_trans hgB.hg (Nat.le_of_lt hgb)
      clear hwB hgB hcB hrl o5 g5 a5 s2 sf2 t2 t6
      go_wp2_with (at_builtin; refine wpList_app _ rfl (.tmp 123) (.tmp 125) 51 rfl H 3 k0 _ 1 8 Try.underlying51 hk0 hw0 hw1 hw2 rfl (by omega) (.slice Al G.leads.length cl) G.leads.length (G.leads.map iv) rfl (by exact own_alloc' HLS.out _) wB.heap.size (wB.heap.size + 1) (some ⟨wB.heap.size, 0, none⟩) 1 1 [.int .i64 (i : Int)] rfl (by exact sl_one _ _ _) (by intro u hu; rw [List.mem_singleton.1 hu]; rfl) (by simp only [maxLen]; omega) (by omega) (by simp; omega) ?_; intro v6 w6 o6 g6 a6; have hb6 := Blk.grown (HGD.out.alloc _) g6 (fun e => HRL.out e.symm); have s3 : w6.cell? ⟨g, 3, none⟩ = some r.lv := hb6.cell 3; have sf3 := hb6.frozen 3; obtain ⟨A6, c6, hv6, -⟩ := own_sl o6; subst hv6; clear hb6)
      go_end0
      obtain ⟨hgC, hcC⟩ := HGC.out.leads_ (ls := [(i : Int)]) (wq := wB.alloc (.cells #[.int .i64 (i : Int)] 3)) ((Below.refl _ wB).alloc (Nat.le_refl _) _) (by rw [List.map_append]; show World.ownsRow _ _ _ _ _ (G.leads ++ [(i : Int)]).length _; rw [List.length_append]; exact o6) (by rw [hlv]; exact g6) (by rw [hlv]; rcases a6 with a6 | a6; exact .inl a6; exact .inr fun k hk => by rw [a6] at hk; injection hk with hk; rw [← hk]; simp)
      have hd : G.done i (x1, []) = { G with nodes := G.nodes.set i x1, msgs := G.msgs ++ ([] : List Ms), terms := G.terms ++ [x1.term], leads := G.leads ++ [(i : Int)] } := by unfold GP.done; rw [if_pos HR3.out, if_pos HR3.out]
      rw [hd]
      have hbb := ((HBEL.out.same (HCA.out.mono fun k hk => hk.elim (fun e => .inl (.inl e)) fun e => .inl (.inr (.inr (.inl e))))).same (HCB.out.mono fun k hk => hk.elim (fun e => .inl (.inl e)) fun e => .inl (.inr (.inr (.inr (.inl e)))))).same (hcC.mono fun k hk => hk.elim (fun e => .inl (.inl e)) fun e => .inl (.inr (.inr (.inr (.inr e)))))
      first | exact ⟨rfl, _, _, hgC, hbb⟩ | exact ⟨rfl, ⟨_, _, hgC⟩, hbb⟩
  · have HR3 := Lib.hid hr3
    have er : (x1.role == 3) = false := by simp [hr3]
    clear hr3
    go_wp2_with (at_builtin; refine wpList_app _ rfl (.tmp 96) (.tmp 97) 57 rfl H 81 i0 _ 10 112 Try.underlying57 hi0 hz0 hz1 hz2 rfl (by omega) (.slice Am G.msgs.length cm) G.msgs.length (mcells G.msgs) rfl HMS.out _ _ none ([] : List Ms).length 0 (mcells ([] : List Ms)) rfl HSO.out (mcs_one _) (by simp only [maxLen]; omega) (by omega) hHs ?_; intro v4 w4 o4 g4 a4; have hq4 := HB2.out.grown g4 (fun e => HRG.out e.symm); have hn4 := HNB.out.grown g4 (fun e => HRY.out e.symm); have u1 : w4.cell? ⟨g, 1, none⟩ = some r.mv := hq4.cell 1; have uf1 := hq4.frozen 1; have u2 : w4.cell? ⟨g, 2, none⟩ = some r.tv := hq4.cell 2; have u3 : w4.cell? ⟨g, 3, none⟩ = some r.lv := hq4.cell 3; have uf2 := hq4.frozen 2; have uf3 := hq4.frozen 3; have b2 : w4.cell? ⟨y.b, 2, none⟩ = some (.int .i64 x1.role) := hn4.cell 2; have b6 : w4.cell? ⟨y.b, 6, none⟩ = some (.int .u64 (x1.term : Int)) := hn4.cell 6; have HQ4 := Lib.hid hq4; have HNN4 := Lib.hid hn4; obtain ⟨A4, c4, hv4, -⟩ := own_sl o4; subst hv4; clear hq4 hn4)
    obtain ⟨hgA, hcA⟩ := HG2.out.msgs_ (ms := ([] : List Ms)) (Below.refl _ _) (by rw [mcells_append]; show World.ownsRow _ _ _ _ _ (G.msgs ++ ([] : List Ms)).length _; rw [List.length_append]; exact o4) (by rw [hmv]; exact g4) (by rw [hmv]; rcases a4 with a4 | a4; exact .inl a4; exact .inr fun k hk => by rw [a4] at hk; injection hk with hk; omega)
    go_end0
    have hd : G.done i (x1, []) = { G with nodes := G.nodes.set i x1, msgs := G.msgs ++ ([] : List Ms) } := by unfold GP.done; rw [if_neg HR3.out, if_neg HR3.out]
    rw [hd]
    first | exact ⟨rfl, _, _, hgA, HBEL.out.same (hcA.mono fun k hk => hk.elim (fun e => .inl (.inl e)) fun e => .inl (.inr (.inr (.inl e))))⟩ | exact ⟨rfl, ⟨_, _, hgA⟩, HBEL.out.same (hcA.mono fun k hk => hk.elim (fun e => .inl (.inl e)) fun e => .inl (.inr (.inr (.inl e))))⟩
set_option maxRecDepth 100000 in
set_option maxHeartbeats 6400000 in
theorem play_other (what : Int) (i : Nat) (x : ND) (w : World) (h : GrpP H w g r xs G) (h1 : what ≠ 1) (h2 : what ≠ 2) (h3 : what ≠ 3) (h4 : what ≠ 4) (h5 : what ≠ 5) (hi : G.nodes[i]? = some x) (hn5 : G.nodes.length ≤ 5) (hm : G.msgs.length ≤ 10000) (ht : G.terms.length ≤ 10000) (hl : G.leads.length ≤ 10000) :
    Calls Try.prog 45 #[.pointer (some ⟨g, 0, none⟩), .agg #[.int .i64 what, .int .i64 (i : Int)]] w fun e w' => e = .returned (.tuple #[]) ∧ ∃ r' xs', GrpP H w' g r' xs' (G.done i (x, ([] : List Ms))) ∧ Chg (GrpOwn r g xs) w w' := by
  obtain ⟨y, hy, rfl⟩ := h.nodeAt hi
  have x0 : w.cell? ⟨g, 0, none⟩ = some r.nv := h.blk.cell 0
  obtain ⟨ad, c, hv, hp, hcap, hmax⟩ := h.ptr hy
  rw [hv] at x0
  have hgl := h.blk.lt
  have hne : g ≠ w.heap.size := by omega
  have hil := (List.getElem?_eq_some_iff.1 hy).1
  have hxl := h.len
  have hN := h.node y (List.mem_of_getElem? hy)
  have hbl := hN.blk.lt
  have hne2 : y.b ≠ w.heap.size := by omega
  have hp' := cell_below ((Below.refl w.heap.size w).alloc (Nat.le_refl _) (.cells #[.int .i64 what, .int .i64 (i : Int)] 78)) hp
  have e1 : (what == 1) = false := by simp [h1]
  have e2 : (what == 2) = false := by simp [h2]
  have e3 : (what == 3) = false := by simp [h3]
  have e4 : (what == 4) = false := by simp [h4]
  have e5 : (what == 5) = false := by simp [h5]
  have HH := Lib.hid h
  have HN0 := Lib.hid hN
  clear h hv hN
  generalize hnn : xs.length = n at x0 hil hcap
  have HNN := Lib.hid hnn
  clear hnn
  have hN2 : NodeP H (w.alloc (.cells #[.int .i64 what, .int .i64 (i : Int)] 78)) y.O y.b y.p y.x := HN0.out.alloc _
  have hC2 : Chg y.O w (w.alloc (.cells #[.int .i64 what, .int .i64 (i : Int)] 78)) := Chg.below ((Below.refl _ w).alloc (Nat.le_refl _) _)
  have HA1 : Hid (Aft w w) := Aft.refl w
  have hrow : World.ownsRow (w.alloc (.cells #[.int .i64 what, .int .i64 (i : Int)] 78)) w.heap.size 81 10 (.slice none 0 0) ([] : List Ms).length (mcells []) := World.ownsRow_nil _ _ _ _
  have hS2 : Sub y.O w y.O := Sub.refl _ _
  have hms : ([] : List Ms).length ≤ 1000 := Nat.zero_le _
  have hapart : ∀ k, (Value.slice none 0 0).ownBlock = some k → ¬ y.O k := fun k hk => by cases hk
  generalize y.x = x1 at hN2 ⊢
  go_enter Try.func45, Try.ntmps45
  go_upto_region 21 with fail
  generalize hw2 : (w.alloc (.cells #[.int .i64 what, .int .i64 (i : Int)] 78)) = w2 at hN2 hC2 hrow ⊢
  clear hw2
  have hg1 := HH.out.after HA1.out
  have hg2 := hg1.turn hy hN2 hS2 hC2
  obtain ⟨i0, hi0, hz0, hz1, hz2⟩ := info_parts msg_info
  obtain ⟨Am, cm, hmv, -⟩ := own_sl hg2.msgs
  obtain ⟨Ao, co, hov, hso⟩ := own_sl hrow
  obtain ⟨rfl, -, rfl⟩ := (Value.slice.injEq _ _ _ _ _ _).mp hov
  clear hov
  have z1 : w2.cell? ⟨g, 1, none⟩ = some r.mv := hg2.blk.cell 1
  rw [hmv] at z1
  have hml : ([] : List Ms).length ≤ 1000 := hms
  have HMS : Hid (w2.ownsRow H 81 10 (.slice Am G.msgs.length cm) G.msgs.length (mcells G.msgs)) := by have := hg2.msgs; rw [hmv] at this; exact this
  have HG2 := Lib.hid hg2
  have HSO := Lib.hid hso
  have HN2 := Lib.hid hN2
  have HB2 := Lib.hid hg2.blk
  have HNB := Lib.hid hN2.blk
  have hHs : H ≤ w2.heap.size := Nat.le_trans hg2.hg (Nat.le_of_lt hg2.blk.lt)
  have hrg : r.mv.ownBlock ≠ some g := row_ne hg2.msgs hg2.blk (by decide)
  have hry : r.mv.ownBlock ≠ some y.b := row_ne hg2.msgs hN2.blk (by decide)
  have hgy : y.b ≠ g := hN2.blk.ne hg2.blk (by decide)
  rw [hmv] at hrg hry
  have HRG := Lib.hid hrg
  have HRY := Lib.hid hry
  have hb2 : w2.cell? ⟨y.b, 2, none⟩ = some (.int .i64 x1.role) := hN2.blk.cell 2
  have hb6 : w2.cell? ⟨y.b, 6, none⟩ = some (.int .u64 (x1.term : Int)) := hN2.blk.cell 6
  have HBEL : Hid (Chg (GrpOwn r g xs) w w2) := (Chg.below HA1.out).same (hC2.mono fun k hk => .inr ⟨y, List.mem_of_getElem? hy, hk⟩)
  clear hg1 hg2 hN2 hS2 hC2 hrow hapart hso hrg hry
  by_cases hr3 : x1.role = 3
  · have HR3 := Lib.hid hr3
    have er : (x1.role == 3) = true := by simp [hr3]
    clear hr3
    go_wp2_with (at_builtin; refine wpList_app _ rfl (.tmp 96) (.tmp 97) 57 rfl H 81 i0 _ 10 112 Try.underlying57 hi0 hz0 hz1 hz2 rfl (by omega) (.slice Am G.msgs.length cm) G.msgs.length (mcells G.msgs) rfl HMS.out _ _ none ([] : List Ms).length 0 (mcells ([] : List Ms)) rfl HSO.out (mcs_one _) (by simp only [maxLen]; omega) (by omega) hHs ?_; intro v4 w4 o4 g4 a4; have hq4 := HB2.out.grown g4 (fun e => HRG.out e.symm); have hn4 := HNB.out.grown g4 (fun e => HRY.out e.symm); have u1 : w4.cell? ⟨g, 1, none⟩ = some r.mv := hq4.cell 1; have uf1 := hq4.frozen 1; have u2 : w4.cell? ⟨g, 2, none⟩ = some r.tv := hq4.cell 2; have u3 : w4.cell? ⟨g, 3, none⟩ = some r.lv := hq4.cell 3; have uf2 := hq4.frozen 2; have uf3 := hq4.frozen 3; have b2 : w4.cell? ⟨y.b, 2, none⟩ = some (.int .i64 x1.role) := hn4.cell 2; have b6 : w4.cell? ⟨y.b, 6, none⟩ = some (.int .u64 (x1.term : Int)) := hn4.cell 6; have HQ4 := Lib.hid hq4; have HNN4 := Lib.hid hn4; obtain ⟨A4, c4, hv4, -⟩ := own_sl o4; subst hv4; clear hq4 hn4)
    obtain ⟨hgA, hcA⟩ := HG2.out.msgs_ (ms := ([] : List Ms)) (Below.refl _ _) (by rw [mcells_append]; show World.ownsRow _ _ _ _ _ (G.msgs ++ ([] : List Ms)).length _; rw [List.length_append]; exact o4) (by rw [hmv]; exact g4) (by rw [hmv]; rcases a4 with a4 | a4; exact .inl a4; exact .inr fun k hk => by rw [a4] at hk; injection hk with hk; omega)
    obtain ⟨j0, hj0, hy0, hy1, hy2⟩ := info_parts u64_info
    obtain ⟨At, ct, htv, -⟩ := own_sl hgA.terms
    have hBn := (HNN4.out.far (p := ⟨g, 1, none⟩) hgy (.slice A4 (G.msgs.length + ([] : List Ms).length) c4))
    generalize hwA : w4.setCell ⟨g, 1, none⟩ (.slice A4 (G.msgs.length + ([] : List Ms).length) c4) = wA at hgA hcA hBn ⊢
    have t2 : wA.cell? ⟨g, 2, none⟩ = some r.tv := hgA.blk.cell 2
    rw [htv] at t2
    have t6 : wA.cell? ⟨y.b, 6, none⟩ = some (.int .u64 (x1.term : Int)) := hBn.cell 6
    have hga : g < wA.heap.size := hgA.blk.lt
    have hba : y.b < wA.heap.size := hBn.lt
    have HTS : Hid (wA.ownsRow H 22 1 (.slice At G.terms.length ct) G.terms.length (G.terms.map uv)) := by have := hgA.terms; rw [htv] at this; exact this
    have hrt : r.tv.ownBlock ≠ some g := row_ne hgA.terms hgA.blk (by decide)
    rw [htv] at hrt
    have HRT := Lib.hid hrt
    have HGA := Lib.hid hgA
    have HGB := Lib.hid hgA.blk
    have HCA := Lib.hid hcA
    have hHa : H ≤ wA.heap.size := Nat.le_trans hgA.hg (Nat.le_of_lt hga)
    clear hwA hgA hcA hBn hrt o4 g4 a4 u1 uf1 u2 u3 uf2 uf3 b2 b6 hb2 hb6 z1
    go_region_law (refine step_app _ rfl (.tmp 110) (.tmp 115) 70 rfl H 22 j0 _ 1 8 Try.underlying70 hj0 hy0 hy1 hy2 rfl (by omega) (.slice At G.terms.length ct) G.terms.length (G.terms.map uv) (by simp [Act.eval, Act.put]) (by first | exact own_alloc' HTS.out _ | exact own_drewN (own_alloc' HTS.out _) 1) wA.heap.size (wA.heap.size + 1) (some ⟨wA.heap.size, 0, none⟩) 1 1 [.int .u64 (x1.term : Int)] (by simp [Act.eval, Act.put]) (by first | exact sl_one _ _ _ | exact (sl_one _ _ _).drew) (by intro u hu; rw [List.mem_singleton.1 hu]; rfl) (by simp only [maxLen]; omega) (by omega) (by simp; omega) ?_; intro v5 w5 o5 g5 a5; have hb5 := Blk.grown (by first | exact HGB.out.alloc _ | exact (HGB.out.alloc _).drew) g5 (fun e => HRT.out e.symm); have s2 : w5.cell? ⟨g, 2, none⟩ = some r.tv := hb5.cell 2; have sf2 := hb5.frozen 2; obtain ⟨A5, c5, hv5, -⟩ := own_sl o5; subst hv5; clear hb5)
    all_goals
      obtain ⟨hgB, hcB⟩ := HGA.out.terms_ (ts := [x1.term]) (wq := (wA.alloc (.cells #[.int .u64 (x1.term : Int)] 22)).drew) ((Below.refl _ wA).alloc (Nat.le_refl _) _).drew (by rw [List.map_append]; show World.ownsRow _ _ _ _ _ (G.terms ++ [x1.term]).length _; rw [List.length_append]; exact o5) (by rw [htv]; exact g5) (by rw [htv]; rcases a5 with a5 | a5; exact .inl a5; exact .inr fun k hk => by rw [a5] at hk; injection hk with hk; simp at hk; omega)
      obtain ⟨Al, cl, hlv, -⟩ := own_sl hgB.leads
      obtain ⟨k0, hk0, hw0, hw1, hw2⟩ := info_parts int_info
      generalize hwB : w5.setCell ⟨g, 2, none⟩ (.slice A5 (G.terms.length + 1) c5) = wB at hgB hcB ⊢
      have l3 : wB.cell? ⟨g, 3, none⟩ = some r.lv := hgB.blk.cell 3
      rw [hlv] at l3
      have hgb : g < wB.heap.size := hgB.blk.lt
      have HLS : Hid (wB.ownsRow H 3 1 (.slice Al G.leads.length cl) G.leads.length (G.leads.map iv)) := by have := hgB.leads; rw [hlv] at this; exact this
      have hrl : r.lv.ownBlock ≠ some g := row_ne hgB.leads hgB.blk (by decide)
      rw [hlv] at hrl
      have HRL := Lib.hid hrl
      have HGC := Lib.hid hgB
      have HGD := Lib.hid hgB.blk
      have HCB := Lib.hid hcB
      have hHb : H ≤ wB.heap.size := Nat.le_trans hgB.hg (Nat.le_of_lt hgb)
      clear hwB hgB hcB hrl o5 g5 a5 s2 sf2 t2 t6
      go_wp2_with (at_builtin; refine wpList_app _ rfl (.tmp 123) (.tmp 125) 51 rfl H 3 k0 _ 1 8 Try.underlying51 hk0 hw0 hw1 hw2 rfl (by omega) (.slice Al G.leads.length cl) G.leads.length (G.leads.map iv) rfl (by exact own_alloc' HLS.out _) wB.heap.size (wB.heap.size + 1) (some ⟨wB.heap.size, 0, none⟩) 1 1 [.int .i64 (i : Int)] rfl (by exact sl_one _ _ _) (by intro u hu; rw [List.mem_singleton.1 hu]; rfl) (by simp only [maxLen]; omega) (by omega) (by simp; omega) ?_; intro v6 w6 o6 g6 a6; have hb6 := Blk.grown (HGD.out.alloc _) g6 (fun e => HRL.out e.symm); have s3 : w6.cell? ⟨g, 3, none⟩ = some r.lv := hb6.cell 3; have sf3 := hb6.frozen 3; obtain ⟨A6, c6, hv6, -⟩ := own_sl o6; subst hv6; clear hb6)
      go_end0
      obtain ⟨hgC, hcC⟩ := HGC.out.leads_ (ls := [(i : Int)]) (wq := wB.alloc (.cells #[.int .i64 (i : Int)] 3)) ((Below.refl _ wB).alloc (Nat.le_refl _) _) (by rw [List.map_append]; show World.ownsRow _ _ _ _ _ (G.leads ++ [(i : Int)]).length _; rw [List.length_append]; exact o6) (by rw [hlv]; exact g6) (by rw [hlv]; rcases a6 with a6 | a6; exact .inl a6; exact .inr fun k hk => by rw [a6] at hk; injection hk with hk; rw [← hk]; simp)
      have hd : G.done i (x1, []) = { G with nodes := G.nodes.set i x1, msgs := G.msgs ++ ([] : List Ms), terms := G.terms ++ [x1.term], leads := G.leads ++ [(i : Int)] } := by unfold GP.done; rw [if_pos HR3.out, if_pos HR3.out]
      rw [hd]
      have hbb := ((HBEL.out.same (HCA.out.mono fun k hk => hk.elim (fun e => .inl (.inl e)) fun e => .inl (.inr (.inr (.inl e))))).same (HCB.out.mono fun k hk => hk.elim (fun e => .inl (.inl e)) fun e => .inl (.inr (.inr (.inr (.inl e)))))).same (hcC.mono fun k hk => hk.elim (fun e => .inl (.inl e)) fun e => .inl (.inr (.inr (.inr (.inr e)))))
      first | exact ⟨rfl, _, _, hgC, hbb⟩ | exact ⟨rfl, ⟨_, _, hgC⟩, hbb⟩
  · have HR3 := Lib.hid hr3
    have er : (x1.role == 3) = false := by simp [hr3]
    clear hr3
    go_wp2_with (at_builtin; refine wpList_app _ rfl (.tmp 96) (.tmp 97) 57 rfl H 81 i0 _ 10 112 Try.underlying57 hi0 hz0 hz1 hz2 rfl (by omega) (.slice Am G.msgs.length cm) G.msgs.length (mcells G.msgs) rfl HMS.out _ _ none ([] : List Ms).length 0 (mcells ([] : List Ms)) rfl HSO.out (mcs_one _) (by simp only [maxLen]; omega) (by omega) hHs ?_; intro v4 w4 o4 g4 a4; have hq4 := HB2.out.grown g4 (fun e => HRG.out e.symm); have hn4 := HNB.out.grown g4 (fun e => HRY.out e.symm); have u1 : w4.cell? ⟨g, 1, none⟩ = some r.mv := hq4.cell 1; have uf1 := hq4.frozen 1; have u2 : w4.cell? ⟨g, 2, none⟩ = some r.tv := hq4.cell 2; have u3 : w4.cell? ⟨g, 3, none⟩ = some r.lv := hq4.cell 3; have uf2 := hq4.frozen 2; have uf3 := hq4.frozen 3; have b2 : w4.cell? ⟨y.b, 2, none⟩ = some (.int .i64 x1.role) := hn4.cell 2; have b6 : w4.cell? ⟨y.b, 6, none⟩ = some (.int .u64 (x1.term : Int)) := hn4.cell 6; have HQ4 := Lib.hid hq4; have HNN4 := Lib.hid hn4; obtain ⟨A4, c4, hv4, -⟩ := own_sl o4; subst hv4; clear hq4 hn4)
    obtain ⟨hgA, hcA⟩ := HG2.out.msgs_ (ms := ([] : List Ms)) (Below.refl _ _) (by rw [mcells_append]; show World.ownsRow _ _ _ _ _ (G.msgs ++ ([] : List Ms)).length _; rw [List.length_append]; exact o4) (by rw [hmv]; exact g4) (by rw [hmv]; rcases a4 with a4 | a4; exact .inl a4; exact .inr fun k hk => by rw [a4] at hk; injection hk with hk; omega)
    go_end0
    have hd : G.done i (x1, []) = { G with nodes := G.nodes.set i x1, msgs := G.msgs ++ ([] : List Ms) } := by unfold GP.done; rw [if_neg HR3.out, if_neg HR3.out]
    rw [hd]
    first | exact ⟨rfl, _, _, hgA, HBEL.out.same (hcA.mono fun k hk => hk.elim (fun e => .inl (.inl e)) fun e => .inl (.inr (.inr (.inl e))))⟩ | exact ⟨rfl, ⟨_, _, hgA⟩, HBEL.out.same (hcA.mono fun k hk => hk.elim (fun e => .inl (.inl e)) fun e => .inl (.inr (.inr (.inl e))))⟩
end
end Go.Proofs.Ytbgdepaffgeinaa
