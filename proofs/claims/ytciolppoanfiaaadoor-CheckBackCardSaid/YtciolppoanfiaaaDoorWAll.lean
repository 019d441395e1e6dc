import Derived.Test.YtciolppoanfiaaaDoorWRefTake
namespace Go.Proofs.YtciolppoanfiaaaDoor
open Go.RowKit

theorem bl_info : (Tryd.prog.info? 22).map (fun i => (i.zero, i.size, i.bytes)) = some (some (.slice none 0 0), 1, 24) := by kernel_rfl
def allF : Nat → List UInt8 → List (List UInt8) × List UInt8 × Nat
  | 0, b => ([], b, 0)
  | n + 1, b => if b = [] then ([], [], 0) else if takeE b = 0 then (takeP b :: (allF n (takeR b)).1, (allF n (takeR b)).2) else ([], b, takeE b)
def all (b : List UInt8) : List (List UInt8) × List UInt8 × Nat := allF (b.length + 1) b
theorem takeR_lt (b : List UInt8) (h : takeE b = 0) : (takeR b).length + 6 ≤ b.length := by
  rcases takeE_cases b with ⟨_, hE⟩ | ⟨_, _, hE⟩ | ⟨_, _, _, hE⟩ | ⟨_, _, _, hE⟩ | ⟨_, h1, _, _⟩
  all_goals first | omega | (unfold takeR; simp; omega)
theorem allF_enough : ∀ n m b, b.length < n → b.length < m → allF n b = allF m b
  | 0, _, _, h, _ => by omega
  | _ + 1, 0, _, _, h => by omega
  | n + 1, m + 1, b, h1, h2 => by
    simp only [allF]
    by_cases hb : b = []
    · rw [if_pos hb, if_pos hb]
    · rw [if_neg hb, if_neg hb]
      by_cases hE : takeE b = 0
      · have := takeR_lt b hE
        rw [if_pos hE, if_pos hE, allF_enough n m (takeR b) (by omega) (by omega)]
      · rw [if_neg hE, if_neg hE]
theorem all_nil : all [] = ([], [], 0) := rfl
theorem all_ok (b : List UInt8) (hb : b ≠ []) (hE : takeE b = 0) : all b = (takeP b :: (all (takeR b)).1, (all (takeR b)).2) := by
  have := takeR_lt b hE
  unfold all
  conv => lhs; unfold allF
  rw [if_neg hb, if_pos hE, allF_enough b.length ((takeR b).length + 1) (takeR b) (by omega) (by omega)]
theorem all_bad (b : List UInt8) (hb : b ≠ []) (hE : takeE b ≠ 0) : all b = ([], b, takeE b) := by
  unfold all allF
  rw [if_neg hb, if_neg hE]

/-- slices that read as lists of bytes, each below base or in a block of bytes -/
def RowsQ (w : World) (base : Nat) (vs : List Value) (ls : List (List UInt8)) : Prop :=
  vs.length = ls.length ∧ ∀ (i : Nat) v l, vs[i]? = some v → ls[i]? = some l → BytesQ w base v l
section
variable {w w' : World} {base : Nat} {vs : List Value} {ls : List (List UInt8)}
theorem RowsQ.after (h : RowsQ w base vs ls) (hb : Below w.heap.size w w') : RowsQ w' base vs ls := ⟨h.1, fun i v l hv hl => (h.2 i v l hv hl).after hb⟩
theorem RowsQ.snoc {v : Value} {l : List UInt8} (h : RowsQ w base vs ls) (hv : BytesQ w base v l) : RowsQ w base (vs ++ [v]) (ls ++ [l]) := by
  refine ⟨by simp [h.1], fun i x y hx hy => ?_⟩
  by_cases hi : i < vs.length
  · rw [List.getElem?_append_left hi] at hx
    rw [List.getElem?_append_left (by rw [← h.1]; exact hi)] at hy
    exact h.2 i x y hx hy
  · rw [List.getElem?_append_right (by omega)] at hx
    rw [List.getElem?_append_right (by rw [← h.1]; omega)] at hy
    rw [← h.1] at hy
    cases hk : i - vs.length with
    | zero =>
      rw [hk] at hx hy
      simp at hx hy
      subst hx hy
      exact hv
    | succ k => rw [hk] at hx; simp at hx
theorem RowsQ.rows (h : RowsQ w base vs ls) : Rows w vs ls := ⟨h.1, fun i v l hv hl => by
  obtain ⟨lo, hi, A, c, e, hs⟩ := (h.2 i v l hv hl).1
  exact ⟨A, c, lo, hi, e, hs⟩⟩
theorem rowsQ_nil (w : World) (base : Nat) : RowsQ w base [] [] := ⟨rfl, fun i v l hv => by simp at hv⟩
/-- a row of slices grows: the slices' own bytes stay -/
theorem RowsQ.grown {v : Value} {n : Nat} {xs : List Value} (h : RowsQ w base vs ls) (hown : w.ownsRow base 22 1 v n xs) (hg : w.grownBy w' v.ownBlock) : RowsQ w' base vs ls :=
  ⟨h.1, fun i x y hx hy => (h.2 i x y hx hy).grown hg (fun g e => by
    refine ⟨(hown.lt g e).1, ?_⟩
    rcases hown.2 with ⟨rfl, _⟩ | ⟨g', cap, cur, rfl, _, hh, _⟩
    · cases e
    · cases e
      exact ⟨_, _, _, hh, by decide⟩)⟩
end
def sliceLen : Value → Nat
  | .slice _ n _ => n
  | _ => 0
/-- What All hands back, as the world holds it. -/
def AllGot (w : World) (b : List UInt8) (u r : Value) (E : Int) : Prop :=
  ∃ A c vs B d, u = .slice A (all b).1.length c ∧ r = .slice B (all b).2.1.length d ∧ E = ((all b).2.2 : Int) ∧ (∃ lo hi, Sl w lo hi 1 A (all b).1.length c vs) ∧ Rows w vs (all b).1 ∧ Bytes w r (all b).2.1

set_option maxRecDepth 100000 in
set_option maxHeartbeats 1600000 in
theorem all_any {v : Value} {b : List UInt8} (w : World) (ha : Bytes w v b) (hT : Tab w) (hT0 : 0 < w.heap.size) (hb : b.length ≤ 1000000) :
    Calls Tryd.prog 20 #[v] w fun e w' => ∃ u r E, e = .returned (.tuple #[u, r, .int .i64 E]) ∧ AllGot w' b u r E ∧ Below w.heap.size w w' := by
  obtain ⟨i0, hi0, hz0, hz1, hz2⟩ := info_parts bl_info
  obtain ⟨A, c, rfl, hs⟩ := ha.now
  have hsb := hs.bytesIn
  clear hs ha
  go_enter Tryd.func20, Tryd.ntmps20
  go_wp2
  go_step3
  go_wp2
  go_step3
  go_wp2
  have hz4 : 4 = 4 := rfl
  clear hz4
  go_loopw [2, 3] (fun u r wr => ∃ (ps : List (List UInt8)) (rb : List UInt8) (vs : List Value) (B : Option Addr) (d : Nat), all b = (ps ++ (all rb).1, (all rb).2) ∧ ps.length + rb.length ≤ b.length ∧ r = .slice B rb.length d ∧ BytesIn wr 0 w.heap.size (.slice B rb.length d) rb ∧
      wr.ownsRow w.heap.size 22 1 u ps.length vs ∧ RowsQ wr w.heap.size vs ps ∧ Below w.heap.size w wr) (fun _ r _ => sliceLen r)
  case atStart => exact ⟨[], b, [], A, c, rfl, by simp, rfl, hsb, World.ownsRow_nil _ _ _ _, rowsQ_nil _ _, Below.refl _ _⟩
  case round =>
    obtain ⟨ps, rb, vs, B, d, hall, hlen, rfl, hrb, hown, hrows, hbel⟩ := hrel
    have hsz := hbel.size
    obtain ⟨A2, c2, rfl, hsl2⟩ := own_sl hown
    by_cases h0 : rb = []
    · subst h0
      rw [all_nil] at hall
      go_wp2
      refine bodyPost_ret (results_tmp3 rfl _ _ _) rfl ?_
      have e : all b = (ps, [], 0) := by rw [hall, List.append_nil]
      refine ⟨_, _, _, rfl, ⟨A2, c2, vs, B, d, ?_, ?_, ?_, ?_, ?_, ?_⟩, hbel⟩
      all_goals rw [e]
      · rfl
      · rfl
      · rfl
      · exact ⟨_, _, hsl2⟩
      · exact hrows.rows
      · exact hrb.bytes
    · have hpos : 0 < rb.length := List.length_pos_iff.2 h0
      by_cases hE : takeE rb = 0
      · have e1 : tP rb = takeP rb := by unfold tP; rw [if_pos hE]
        have e2 : tR rb = takeR rb := by unfold tR; rw [if_pos hE]
        have hlt := takeR_lt rb hE
        have hao := all_ok rb h0 hE
        have htk := take_tot wr hrb (hT.below hbel hT0) (by omega)
        rw [e1, e2, hE] at htk
        have Hao := Lib.hid hao
        have Hall := Lib.hid hall
        clear hall hao e1 e2 hE
        generalize takeP rb = P at htk Hao
        generalize takeR rb = R at htk hlt Hao
        obtain ⟨m, hm⟩ : ∃ m, rb.length = m := ⟨_, rfl⟩
        rw [hm] at hlen hrb hpos hlt htk ⊢
        have Hm := Lib.hid hm
        clear hm
        obtain ⟨k, hk⟩ : ∃ k, ps.length = k := ⟨_, rfl⟩
        rw [hk] at hown hlen hsl2 ⊢
        have Hk := Lib.hid hk
        clear hk
        go_wp2_with (first
          | (at_builtin; have _g := hq1; go_must (refine wpList_app _ rfl (.tmp 20) (.tmp 22) 34 rfl w.heap.size 22 i0 _ 1 24 Tryd.underlying34 hi0 hz0 hz1 hz2 rfl (by omega) (.slice A2 k c2) k vs rfl ((own_after hown hq1).alloc _) w1.heap.size (w1.heap.size + 1) (some ⟨w1.heap.size, 0, none⟩) 1 1 [.slice A3 P.length c3] rfl (sl_one _ _ _) (by intro u hu; rw [List.mem_singleton.1 hu]; rfl) (by simp only [maxLen]; omega) (by omega) (by simp; omega) ?_; intro v2 w2 hown2 hg2 hat2))
          | (go_at_call 18; go_must (refine htk.mono ?_; rintro e w1 ⟨A3, c3, B3, d3, rfl, hp1, hr1, hq1⟩; have hz1' := hq1.size)))
        go_roundw
        case rel =>
          have hb1 : BytesQ w1 w.heap.size (Value.slice A3 P.length c3) P := hp1 w.heap.size
          have own1 := own_after hown hq1
          have hD1 : Below w.heap.size w w1 := hbel.trans (hq1.mono hsz)
          have hal : Below w1.heap.size w1 (w1.alloc (Obj.cells #[Value.slice A3 P.length c3] 22)) := (Below.refl _ _).alloc (Nat.le_refl _) _
          have hD2 : Below w.heap.size w w2 := (hD1.alloc hD1.size _).grown hg2 (by have := hD1.size; simp; omega) (fun q e => (own1.lt q e).1)
          refine ⟨ps ++ [P], R, vs ++ [Value.slice A3 P.length c3], B3, d3, ?_, ?_, rfl, ?_, ?_, ?_, hD2⟩
          · rw [Hall.out, Hao.out]; simp
          · have := Hk.out; simp; omega
          · exact (hr1.alloc _).grown hg2 (fun q e => .inr (own1.lt q e).1)
          · have := Hk.out
            rw [List.length_append, this]
            exact hown2
          · exact ((hrows.after hq1).after hal |>.snoc (hb1.after hal)).grown ((own1.alloc _)) hg2
        case measure => simp [sliceLen]; omega
      · have e1 : tP rb = [] := by unfold tP; rw [if_neg hE]
        have e2 : tR rb = [] := by unfold tR; rw [if_neg hE]
        have hab := all_bad rb h0 hE
        rw [hab] at hall
        have hEn : takeE rb < 100 := by rcases takeE_cases rb with ⟨_, h⟩ | ⟨_, _, h⟩ | ⟨_, _, _, h⟩ | ⟨_, _, _, h⟩ | ⟨_, _, _, h⟩ <;> omega
        have htk := fun w' (h : Below wr.heap.size wr w') => take_tot w' (hrb.after h) ((hT.below hbel hT0).below h (by omega)) (Nat.lt_of_lt_of_le (Nat.lt_of_lt_of_le hT0 hsz) h.size)
        simp only [e1, e2] at htk
        obtain ⟨E, hEd⟩ : ∃ E, takeE rb = E := ⟨_, rfl⟩
        rw [hEd] at hE hall hEn
        simp only [hEd] at htk
        have Hall := Lib.hid hall
        have Htk := Lib.hid htk
        clear hall htk hab e1 e2 hEd
        obtain ⟨m, hm⟩ : ∃ m, rb.length = m := ⟨_, rfl⟩
        rw [hm] at hlen hrb hpos Htk ⊢
        have Hm := Lib.hid hm
        clear hm
        have hEb : ((E : Int) != 0) = true := by simp; omega
        go_wp2_with (first
          | (go_at_call 18; have _g := hq1; go_must (refine (Htk.out w1 hq1).mono ?_; rintro e w2 ⟨A4, c4, B4, d4, rfl, hp2, hr2, hq2⟩))
          | (go_at_call 18; go_must (refine (Htk.out wr (Below.refl _ _)).mono ?_; rintro e w1 ⟨A3, c3, B3, d3, rfl, hp1, hr1, hq1⟩; have hz1' := hq1.size)))
        rw [Exit.noGoto_ret]
        refine bodyPost_ret (results_tmp3 rfl _ _ _) rfl ?_
        have e : all b = (ps, rb, E) := by rw [Hall.out, List.append_nil]
        have hq : Below wr.heap.size wr w2 := hq1.trans (hq2.mono hz1')
        refine ⟨.slice A2 ps.length c2, .slice B m d, _, rfl, ⟨A2, c2, vs, B, d, ?_, ?_, ?_, ?_, ?_, ?_⟩, hbel.trans (hq.mono hsz)⟩
        all_goals rw [e]
        · rw [Hm.out]
        · exact ⟨_, _, hsl2.after (by decide) hq⟩
        · exact (hrows.after hq).rows
        · exact (hrb.after hq).bytes

set_option maxRecDepth 100000 in
set_option maxHeartbeats 1600000 in
theorem refAll_any {v : Value} {b : List UInt8} (w : World) (ha : Bytes w v b) (hb : b.length ≤ 1000000) :
    Calls Tryd.prog 21 #[v] w fun e w' => ∃ u r E, e = .returned (.tuple #[u, r, .int .i64 E]) ∧ AllGot w' b u r E ∧ Below w.heap.size w w' := by
  obtain ⟨i0, hi0, hz0, hz1, hz2⟩ := info_parts bl_info
  obtain ⟨A, c, rfl, hs⟩ := ha.now
  have hsb := hs.bytesIn
  clear hs ha
  go_enter Tryd.func21, Tryd.ntmps21
  go_wp2
  go_loopw [0, 5] (fun r u wr => ∃ (ps : List (List UInt8)) (rb : List UInt8) (vs : List Value) (B : Option Addr) (d : Nat), all b = (ps ++ (all rb).1, (all rb).2) ∧ ps.length + rb.length ≤ b.length ∧ r = .slice B rb.length d ∧ BytesIn wr 0 w.heap.size (.slice B rb.length d) rb ∧
      wr.ownsRow w.heap.size 22 1 u ps.length vs ∧ RowsQ wr w.heap.size vs ps ∧ Below w.heap.size w wr) (fun r _ _ => sliceLen r)
  case atStart => exact ⟨[], b, [], A, c, rfl, by simp, rfl, hsb, World.ownsRow_nil _ _ _ _, rowsQ_nil _ _, Below.refl _ _⟩
  case round =>
    obtain ⟨ps, rb, vs, B, d, hall, hlen, rfl, hrb, hown, hrows, hbel⟩ := hrel
    have hsz := hbel.size
    obtain ⟨A2, c2, rfl, hsl2⟩ := own_sl hown
    by_cases h0 : rb = []
    · subst h0
      rw [all_nil] at hall
      go_wp2
      refine bodyPost_ret (results_tmp3 rfl _ _ _) rfl ?_
      have e : all b = (ps, [], 0) := by rw [hall, List.append_nil]
      refine ⟨_, _, _, rfl, ⟨A2, c2, vs, none, 0, ?_, ?_, ?_, ?_, ?_, ?_⟩, hbel⟩
      all_goals rw [e]
      · rfl
      · rfl
      · rfl
      · exact ⟨_, _, hsl2⟩
      · exact hrows.rows
      · exact bytes_nil _
    · have hpos : 0 < rb.length := List.length_pos_iff.2 h0
      have htk := refTake_tot wr hrb
      by_cases hE : takeE rb = 0
      · have e1 : tP rb = takeP rb := by unfold tP; rw [if_pos hE]
        have e2 : tR rb = takeR rb := by unfold tR; rw [if_pos hE]
        have hlt := takeR_lt rb hE
        have hao := all_ok rb h0 hE
        rw [e1, e2, hE] at htk
        have Hao := Lib.hid hao
        have Hall := Lib.hid hall
        clear hall hao e1 e2 hE
        generalize takeP rb = P at htk Hao
        generalize takeR rb = R at htk hlt Hao
        obtain ⟨m, hm⟩ : ∃ m, rb.length = m := ⟨_, rfl⟩
        rw [hm] at hlen hrb hpos hlt htk ⊢
        have Hm := Lib.hid hm
        clear hm
        obtain ⟨k, hk⟩ : ∃ k, ps.length = k := ⟨_, rfl⟩
        rw [hk] at hown hlen hsl2 ⊢
        have Hk := Lib.hid hk
        clear hk
        go_wp2_with (first
          | (at_builtin; have _g := hq1; go_must (refine wpList_app _ rfl (.tmp 23) (.tmp 25) 34 rfl w.heap.size 22 i0 _ 1 24 Tryd.underlying34 hi0 hz0 hz1 hz2 rfl (by omega) (.slice A2 k c2) k vs rfl ((own_after hown hq1).alloc _) w1.heap.size (w1.heap.size + 1) (some ⟨w1.heap.size, 0, none⟩) 1 1 [.slice A3 P.length c3] rfl (sl_one _ _ _) (by intro u hu; rw [List.mem_singleton.1 hu]; rfl) (by simp only [maxLen]; omega) (by omega) (by simp; omega) ?_; intro v2 w2 hown2 hg2 hat2))
          | (go_at_call 19; go_must (refine htk.mono ?_; rintro e w1 ⟨A3, c3, B3, d3, rfl, hp1, hr1, hq1⟩; have hz1' := hq1.size)))
        go_roundw
        case rel =>
          have hb1 : BytesQ w1 w.heap.size (Value.slice A3 P.length c3) P := bytesIn_Q hp1 (Nat.le_refl _)
          have own1 := own_after hown hq1
          have hD1 : Below w.heap.size w w1 := hbel.trans (hq1.mono hsz)
          have hal : Below w1.heap.size w1 (w1.alloc (Obj.cells #[Value.slice A3 P.length c3] 22)) := (Below.refl _ _).alloc (Nat.le_refl _) _
          have hD2 : Below w.heap.size w w2 := (hD1.alloc hD1.size _).grown hg2 (by have := hD1.size; simp; omega) (fun q e => (own1.lt q e).1)
          refine ⟨ps ++ [P], R, vs ++ [Value.slice A3 P.length c3], B3, d3, ?_, ?_, rfl, ?_, ?_, ?_, hD2⟩
          · rw [Hall.out, Hao.out]; simp
          · have := Hk.out; simp; omega
          · exact (hr1.alloc _).grown hg2 (fun q e => .inr (own1.lt q e).1)
          · have := Hk.out
            rw [List.length_append, this]
            exact hown2
          · exact ((hrows.after hq1).after hal |>.snoc (hb1.after hal)).grown ((own1.alloc _)) hg2
        case measure => simp [sliceLen]; omega
      · have e1 : tP rb = [] := by unfold tP; rw [if_neg hE]
        have e2 : tR rb = [] := by unfold tR; rw [if_neg hE]
        have hab := all_bad rb h0 hE
        rw [hab] at hall
        have hEn : takeE rb < 100 := by rcases takeE_cases rb with ⟨_, h⟩ | ⟨_, _, h⟩ | ⟨_, _, _, h⟩ | ⟨_, _, _, h⟩ | ⟨_, _, _, h⟩ <;> omega
        simp only [e1, e2] at htk
        obtain ⟨E, hEd⟩ : ∃ E, takeE rb = E := ⟨_, rfl⟩
        rw [hEd] at hE hall hEn
        simp only [hEd] at htk
        have Hall := Lib.hid hall
        have Htk := Lib.hid htk
        clear hall htk hab e1 e2 hEd
        obtain ⟨m, hm⟩ : ∃ m, rb.length = m := ⟨_, rfl⟩
        rw [hm] at hlen hrb hpos Htk ⊢
        have Hm := Lib.hid hm
        clear hm
        have hEb : ((E : Int) != 0) = true := by simp; omega
        go_wp2_with (go_at_call 19; go_must (refine Htk.out.mono ?_; rintro e w1 ⟨A3, c3, B3, d3, rfl, hp1, hr1, hq1⟩; have hz1' := hq1.size))
        refine bodyPost_ret (results_tmp3 rfl _ _ _) rfl ?_
        have e : all b = (ps, rb, E) := by rw [Hall.out, List.append_nil]
        refine ⟨.slice A2 ps.length c2, .slice B m d, _, rfl, ⟨A2, c2, vs, B, d, ?_, ?_, ?_, ?_, ?_, ?_⟩, hbel.trans (hq1.mono hsz)⟩
        all_goals rw [e]
        · rw [Hm.out]
        · exact ⟨_, _, hsl2.after (by decide) hq1⟩
        · exact (hrows.after hq1).rows
        · exact (hrb.after hq1).bytes
end Go.Proofs.YtciolppoanfiaaaDoor
