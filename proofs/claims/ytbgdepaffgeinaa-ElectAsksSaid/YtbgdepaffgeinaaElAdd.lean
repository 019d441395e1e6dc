/- The document's log with one entry more. -/
import Derived.Test.YtbgdepaffgeinaaElRef3
import Derived.Test.YtbgdepaffgeinaaElReg
namespace Go.Proofs.Ytbgdepaffgeinaa
open Go.RowKit
set_option maxRecDepth 100000 in
set_option maxHeartbeats 20000000 in
theorem radd_any (base bt n c lo hi t : Nat) (A : Option Addr) (es : List Ent) (w : World) (hs : Sl w lo hi 3 A n c (ecells es)) (hn : n ≤ 10000) :
    Calls Try.prog 84 #[.agg #[.int .u64 (base : Int), .int .u64 (bt : Int), .slice A n c], .agg #[.int .u64 (t : Int), .int .i64 0, .slice none 0 0]] w fun e w' =>
      ∃ A' c', e = .returned (.agg #[.int .u64 (base : Int), .int .u64 (bt : Int), .slice A' (n + 1) c']) ∧ w'.ownsRow w.heap.size 35 3 (.slice A' (n + 1) c') (n + 1) (ecells (es ++ [tent t])) ∧ Below w.heap.size w w' := by
  obtain ⟨i0, hi0, hz0, hz1, hz2⟩ := info_parts en_info
  have HS : Hid (∀ W, Below w.heap.size w W → Sl W lo hi 3 A n c (ecells es)) := fun W hW => hs.after (by decide) hW
  have H1 := Lib.hid (ecells_append es [tent t])
  clear hs
  go_enter Try.func84, Try.ntmps84
  go_wp2_with fail
  have hB := (((Below.refl w.heap.size w).alloc (Nat.le_refl _) (.cells #[.int .u64 (base : Int), .int .u64 (bt : Int), .slice A n c] 28)).alloc (by simp) (.cells #[.int .u64 (t : Int), .int .i64 0, .slice none 0 0] 35)).alloc (by simp; omega) (.cells #[.int .u64 0, .int .u64 0, .slice none 0 0] 28)
  have B2 := ((Blk.new w 28 #[.int .u64 (base : Int), .int .u64 (bt : Int), .slice A n c]).alloc (.cells #[.int .u64 (t : Int), .int .i64 0, .slice none 0 0] 35)).alloc (.cells #[.int .u64 0, .int .u64 0, .slice none 0 0] 28)
  have B3 := (Blk.new (w.alloc (.cells #[.int .u64 (base : Int), .int .u64 (bt : Int), .slice A n c] 28)) 35 #[.int .u64 (t : Int), .int .i64 0, .slice none 0 0]).alloc (.cells #[.int .u64 0, .int .u64 0, .slice none 0 0] 28)
  have B4 := Blk.new ((w.alloc (.cells #[.int .u64 (base : Int), .int .u64 (bt : Int), .slice A n c] 28)).alloc (.cells #[.int .u64 (t : Int), .int .i64 0, .slice none 0 0] 35)) 28 #[.int .u64 0, .int .u64 0, .slice none 0 0]
  simp only [alloc_size] at B3 B4
  generalize hwb : ((w.alloc (Obj.cells #[.int .u64 (base : Int), .int .u64 (bt : Int), .slice A n c] 28)).alloc (Obj.cells #[.int .u64 (t : Int), .int .i64 0, .slice none 0 0] 35)).alloc (Obj.cells #[.int .u64 0, .int .u64 0, .slice none 0 0] 28) = wb at hB B2 B3 B4 ⊢
  have hsz : wb.heap.size = w.heap.size + 1 + 1 + 1 := by rw [← hwb]; simp
  clear hwb
  obtain ⟨x0, x1, x2⟩ := B2.c3
  obtain ⟨y0, y1, y2⟩ := B3.c3
  have HX : Hid (∀ W, Below wb.heap.size wb W → W.cell? ⟨w.heap.size, 0, none⟩ = some (.int .u64 (base : Int)) ∧ W.cell? ⟨w.heap.size, 1, none⟩ = some (.int .u64 (bt : Int)) ∧ W.cell? ⟨w.heap.size, 2, none⟩ = some (.slice A n c) ∧ W.cell? ⟨w.heap.size + 1, 0, none⟩ = some (.int .u64 (t : Int)) ∧ W.cell? ⟨w.heap.size + 1, 1, none⟩ = some (.int .i64 0) ∧ W.cell? ⟨w.heap.size + 1, 2, none⟩ = some (.slice none 0 0)) := fun W hW => ⟨cell_below hW x0, cell_below hW x1, cell_below hW x2, cell_below hW y0, cell_below hW y1, cell_below hW y2⟩
  have HT : Hid (∀ W, Below wb.heap.size wb W → Below w.heap.size w W) := fun W hW => hB.trans (hW.mono (by omega))
  have HK1 : Hid (∀ (W : World) (o : Obj), Below wb.heap.size wb W → Below wb.heap.size wb (W.alloc o)) := fun W o h => h.alloc h.size o
  have HB4 := Lib.hid B4
  have HSZ := Lib.hid hsz
  have D0 : Below wb.heap.size wb wb.drew := (Below.refl _ wb).drew
  clear B2 B3 B4 hB x0 x1 x2 y0 y1 y2
  have S0 := HX.out _ D0
  refine wp_region_E (S := fun W => W.cell? ⟨w.heap.size, 0, none⟩ = some (.int .u64 (base : Int)) ∧ W.cell? ⟨w.heap.size, 1, none⟩ = some (.int .u64 (bt : Int)) ∧ W.cell? ⟨w.heap.size, 2, none⟩ = some (.slice A n c) ∧ W.cell? ⟨w.heap.size + 1, 0, none⟩ = some (.int .u64 (t : Int)) ∧ W.cell? ⟨w.heap.size + 1, 1, none⟩ = some (.int .i64 0) ∧ W.cell? ⟨w.heap.size + 1, 2, none⟩ = some (.slice none 0 0)) (n := 12) (by kernel_rfl) ?_
  refine wpAnyE_take (n := 12) (i := 0) (v := (.pointer (some ⟨w.heap.size, 0, none⟩))) rfl (by kernel_rfl) (by kernel_rfl) (by kernel_rfl) (by kernel_rfl) (by decide) (fun _ _ _ h => h) (by rfl) (by rintro W ⟨s0, s1, s2, s3, s4, s5⟩; go_simp) S0 ?_
  try simp only [Act.put, List.setIfInBounds_toArray, List.set_cons_zero, List.set_cons_succ]
  refine wpAnyE_take (n := 12) (i := 1) (v := (.int .u64 (base : Int))) rfl (by kernel_rfl) (by kernel_rfl) (by kernel_rfl) (by kernel_rfl) (by decide) (fun _ _ _ h => h) (by rfl) (by rintro W ⟨s0, s1, s2, s3, s4, s5⟩; go_simp) S0 ?_
  try simp only [Act.put, List.setIfInBounds_toArray, List.set_cons_zero, List.set_cons_succ]
  refine wpAnyE_take (n := 12) (i := 2) (v := (.pointer (some ⟨w.heap.size, 1, none⟩))) rfl (by kernel_rfl) (by kernel_rfl) (by kernel_rfl) (by kernel_rfl) (by decide) (fun _ _ _ h => h) (by rfl) (by rintro W ⟨s0, s1, s2, s3, s4, s5⟩; go_simp) S0 ?_
  try simp only [Act.put, List.setIfInBounds_toArray, List.set_cons_zero, List.set_cons_succ]
  refine wpAnyE_take (n := 12) (i := 3) (v := (.int .u64 (bt : Int))) rfl (by kernel_rfl) (by kernel_rfl) (by kernel_rfl) (by kernel_rfl) (by decide) (fun _ _ _ h => h) (by rfl) (by rintro W ⟨s0, s1, s2, s3, s4, s5⟩; go_simp) S0 ?_
  try simp only [Act.put, List.setIfInBounds_toArray, List.set_cons_zero, List.set_cons_succ]
  refine wpAnyE_take (n := 12) (i := 5) (v := (.pointer (some ⟨w.heap.size, 2, none⟩))) rfl (by kernel_rfl) (by kernel_rfl) (by kernel_rfl) (by kernel_rfl) (by decide) (fun _ _ _ h => h) (by rfl) (by rintro W ⟨s0, s1, s2, s3, s4, s5⟩; go_simp) S0 ?_
  try simp only [Act.put, List.setIfInBounds_toArray, List.set_cons_zero, List.set_cons_succ]
  refine wpAnyE_take (n := 12) (i := 6) (v := (.slice A n c)) rfl (by kernel_rfl) (by kernel_rfl) (by kernel_rfl) (by kernel_rfl) (by decide) (fun _ _ _ h => h) (by rfl) (by rintro W ⟨s0, s1, s2, s3, s4, s5⟩; go_simp) S0 ?_
  try simp only [Act.put, List.setIfInBounds_toArray, List.set_cons_zero, List.set_cons_succ]
  refine wpAnyE_take (n := 12) (i := 8) (v := (.agg #[.int .u64 (t : Int), .int .i64 0, .slice none 0 0])) rfl (by kernel_rfl) (by kernel_rfl) (by kernel_rfl) (by kernel_rfl) (by decide) (fun _ _ _ h => h) (by rfl) (by rintro W ⟨s0, s1, s2, s3, s4, s5⟩; go_simp) S0 ?_
  try simp only [Act.put, List.setIfInBounds_toArray, List.set_cons_zero, List.set_cons_succ]
  refine wpAnyE_all (rs := [4, 9]) (by kernel_rfl) (by simp) ?_
  intro j hj
  rcases List.mem_cons.1 hj with rfl | hj
  ·
    refine wpOp_E rfl (fun K' hK => ?_)
    go_simp
    have D1 := HK1.out _ (.cells #[] 35) D0
    refine hK.out _ _ (fun _ => HX.out _ D1) (fun SN => ?_)
    clear hK
    try simp only [Act.put, List.setIfInBounds_toArray, List.set_cons_zero, List.set_cons_succ]
    refine wpAnyE_all (rs := [7, 9]) (by kernel_rfl) (by simp) ?_
    intro j hj
    rcases List.mem_cons.1 hj with rfl | hj
    ·
      refine wpOp_E rfl (fun K' hK => ?_)
      refine step_app _ rfl (.tmp 9) (.tmp 11) 23 rfl wb.heap.size 35 i0 _ 3 40 Try.underlying23 hi0 hz0 hz1 hz2 rfl (by omega) (.slice (some ⟨wb.heap.size, 0, none⟩) 0 0) 0 [] (by simp [Act.eval, Act.put]) (own_empty wb.drew _ 3 _ rfl) _ _ A n c _ (by simp [Act.eval, Act.put]) (HS.out _ (HT.out _ D1)) (ec_one _) (by simp only [maxLen]; omega) (by omega) (D1.size) ?_
      intro v6 w6 o6 g6 a6
      have D2 : Below wb.heap.size wb w6 := D1.grown g6 D1.size (fun k hk => by have h' : some (wb.heap.size) = some k := hk; injection h' with h'; omega)
      refine hK.out _ _ (fun _ => HX.out _ D2) (fun SN => ?_)
      clear hK
      try simp only [Act.put, List.setIfInBounds_toArray, List.set_cons_zero, List.set_cons_succ]
      refine wpAnyE_all (rs := [9]) (by kernel_rfl) (by simp) ?_
      intro j hj
      obtain rfl := List.mem_singleton.1 hj
      refine wpOp_E rfl (fun K' hK => ?_)
      go_simp
      have D3 := HK1.out _ (.cells #[.int .u64 (t : Int), .int .i64 0, .slice none 0 0] 35) D2
      refine hK.out _ _ (fun _ => HX.out _ D3) (fun SN => ?_)
      clear hK
      try simp only [Act.put, List.setIfInBounds_toArray, List.set_cons_zero, List.set_cons_succ]
      refine wpAnyE_all (rs := [10]) (by kernel_rfl) (by simp) ?_
      intro j hj
      obtain rfl := List.mem_singleton.1 hj
      refine wpOp_E rfl (fun K' hK => ?_)
      refine step_app _ rfl (.tmp 12) (.tmp 14) 23 rfl wb.heap.size 35 i0 _ 3 40 Try.underlying23 hi0 hz0 hz1 hz2 rfl (by omega) v6 (0 + n) ([] ++ ecells es) (by simp [Act.eval, Act.put]) (own_alloc' o6 _) _ _ (some ⟨w6.heap.size, 0, none⟩) 1 1 (ecells [tent t]) (by simp [Act.eval, Act.put]) (sl_at w6 _ 3 1 1 _ _ rfl rfl (Nat.le_refl _) (by decide)) (ec_one _) (by simp only [maxLen]; omega) (by omega) (D3.size) ?_
      intro v7 w7 o7 g7 a7
      have D7 : Below wb.heap.size wb w7 := D3.grown g7 D3.size (fun k hk => (World.ownsRow.lt o6 k hk).1)
      refine hK.out _ _ (fun _ => HX.out _ D7) (fun SN => ?_)
      clear hK
      try simp only [Act.put, List.setIfInBounds_toArray, List.set_cons_zero, List.set_cons_succ]
      have B7 := HB4.out.after D7
      have HD7 := Lib.hid D7
      obtain ⟨A7, c7, hv7, -⟩ := own_sl o7
      subst hv7
      obtain ⟨z0, z1, z2⟩ := B7.c3
      have f0 := B7.frozen 0
      have f1 := B7.frozen 1
      have f2 := B7.frozen 2
      have HB7 := Lib.hid B7
      have HO7 := Lib.hid o7
      clear B7 o7 g7 a7 o6 g6 a6
      refine wpAnyE_all (rs := [11]) (by kernel_rfl) (by simp) ?_
      intro j hj
      obtain rfl := List.mem_singleton.1 hj
      refine wpOp_E rfl (fun K' hK => ?_)
      go_simp
      refine hK.out _ _ (fun _ => HX.out _ HD7.out) (fun SN => ?_)
      clear hK
      try simp only [Act.put, List.setIfInBounds_toArray, List.set_cons_zero, List.set_cons_succ]
      refine wpAnyE_all (rs := [12]) (by kernel_rfl) (by simp) ?_
      intro j hj
      obtain rfl := List.mem_singleton.1 hj
      refine wpOp_E rfl (fun K' hK => ?_)
      go_simp
      refine hK.out _ _ (fun h => absurd rfl h) (fun _ => ?_)
      clear hK
      try simp only [Act.put, List.setIfInBounds_toArray, List.set_cons_zero, List.set_cons_succ]
      refine wpAnyE_done (by kernel_rfl) ?_ _
      go_wp2
      have B8 := ((HB7.out.set_ 0 (.int .u64 (base : Int))).set_ 1 (.int .u64 (bt : Int))).set_ 2 (.slice A7 (0 + n + 1) c7)
      obtain ⟨r0, r1, r2⟩ := B8.c3
      have hO := HO7.out
      simp only [Nat.zero_add, List.nil_append] at hO r0 r1 r2 ⊢
      rw [← H1.out] at hO
      have D8 := ((HT.out _ HD7.out).setCell (p := ⟨w.heap.size + 1 + 1, 0, none⟩) (by simp; omega) (.int .u64 (base : Int))).setCell (p := ⟨w.heap.size + 1 + 1, 1, none⟩) (by simp; omega) (.int .u64 (bt : Int)) |>.setCell (p := ⟨w.heap.size + 1 + 1, 2, none⟩) (by simp; omega) (.slice A7 (n + 1) c7)
      refine bodyPost_ret (v := .agg #[.int .u64 (base : Int), .int .u64 (bt : Int), .slice A7 (n + 1) c7]) (by simp [results, Try.results84, go_sem, r0, r1, r2]) rfl ?_
      have hlt : w.heap.size + 1 + 1 < wb.heap.size := by have := HSZ.out; omega
      exact ⟨A7, c7, rfl, own_wide (own_set (own_set (own_set hO hlt _ _) hlt _ _) hlt _ _) (by omega), D8⟩
    ·
      obtain rfl := List.mem_singleton.1 hj
      refine wpOp_E rfl (fun K' hK => ?_)
      go_simp
      have D2 := HK1.out _ (.cells #[.int .u64 (t : Int), .int .i64 0, .slice none 0 0] 35) D1
      refine hK.out _ _ (fun _ => HX.out _ D2) (fun SN => ?_)
      clear hK
      try simp only [Act.put, List.setIfInBounds_toArray, List.set_cons_zero, List.set_cons_succ]
      refine wpAnyE_all (rs := [7]) (by kernel_rfl) (by simp) ?_
      intro j hj
      obtain rfl := List.mem_singleton.1 hj
      refine wpOp_E rfl (fun K' hK => ?_)
      refine step_app _ rfl (.tmp 9) (.tmp 11) 23 rfl wb.heap.size 35 i0 _ 3 40 Try.underlying23 hi0 hz0 hz1 hz2 rfl (by omega) (.slice (some ⟨wb.heap.size, 0, none⟩) 0 0) 0 [] (by simp [Act.eval, Act.put]) (own_alloc' (own_empty wb.drew _ 3 _ rfl) _) _ _ A n c _ (by simp [Act.eval, Act.put]) (HS.out _ (HT.out _ D2)) (ec_one _) (by simp only [maxLen]; omega) (by omega) (D2.size) ?_
      intro v6 w6 o6 g6 a6
      have D3 : Below wb.heap.size wb w6 := D2.grown g6 D2.size (fun k hk => by have h' : some (wb.heap.size) = some k := hk; injection h' with h'; omega)
      refine hK.out _ _ (fun _ => HX.out _ D3) (fun SN => ?_)
      clear hK
      try simp only [Act.put, List.setIfInBounds_toArray, List.set_cons_zero, List.set_cons_succ]
      have q9 := (sl_at (wb.drew.alloc (.cells #[] 35)) (wb.heap.size + 1) 3 1 1 #[.int .u64 (t : Int), .int .i64 0, .slice none 0 0] 35 (by simp) rfl (Nat.le_refl _) (by decide)).grown (by decide) g6 (fun k hk => by have h' : some wb.heap.size = some k := hk; injection h' with h'; omega)
      refine wpAnyE_all (rs := [10]) (by kernel_rfl) (by simp) ?_
      intro j hj
      obtain rfl := List.mem_singleton.1 hj
      refine wpOp_E rfl (fun K' hK => ?_)
      refine step_app _ rfl (.tmp 12) (.tmp 14) 23 rfl wb.heap.size 35 i0 _ 3 40 Try.underlying23 hi0 hz0 hz1 hz2 rfl (by omega) v6 (0 + n) ([] ++ ecells es) (by simp [Act.eval, Act.put]) (o6) _ _ (some ⟨wb.heap.size + 1, 0, none⟩) 1 1 (ecells [tent t]) (by simp [Act.eval, Act.put]) (q9) (ec_one _) (by simp only [maxLen]; omega) (by omega) (D3.size) ?_
      intro v7 w7 o7 g7 a7
      have D7 : Below wb.heap.size wb w7 := D3.grown g7 D3.size (fun k hk => (World.ownsRow.lt o6 k hk).1)
      refine hK.out _ _ (fun _ => HX.out _ D7) (fun SN => ?_)
      clear hK
      try simp only [Act.put, List.setIfInBounds_toArray, List.set_cons_zero, List.set_cons_succ]
      have B7 := HB4.out.after D7
      have HD7 := Lib.hid D7
      obtain ⟨A7, c7, hv7, -⟩ := own_sl o7
      subst hv7
      obtain ⟨z0, z1, z2⟩ := B7.c3
      have f0 := B7.frozen 0
      have f1 := B7.frozen 1
      have f2 := B7.frozen 2
      have HB7 := Lib.hid B7
      have HO7 := Lib.hid o7
      clear B7 o7 g7 a7 o6 g6 a6
      refine wpAnyE_all (rs := [11]) (by kernel_rfl) (by simp) ?_
      intro j hj
      obtain rfl := List.mem_singleton.1 hj
      refine wpOp_E rfl (fun K' hK => ?_)
      go_simp
      refine hK.out _ _ (fun _ => HX.out _ HD7.out) (fun SN => ?_)
      clear hK
      try simp only [Act.put, List.setIfInBounds_toArray, List.set_cons_zero, List.set_cons_succ]
      refine wpAnyE_all (rs := [12]) (by kernel_rfl) (by simp) ?_
      intro j hj
      obtain rfl := List.mem_singleton.1 hj
      refine wpOp_E rfl (fun K' hK => ?_)
      go_simp
      refine hK.out _ _ (fun h => absurd rfl h) (fun _ => ?_)
      clear hK
      try simp only [Act.put, List.setIfInBounds_toArray, List.set_cons_zero, List.set_cons_succ]
      refine wpAnyE_done (by kernel_rfl) ?_ _
      go_wp2
      have B8 := ((HB7.out.set_ 0 (.int .u64 (base : Int))).set_ 1 (.int .u64 (bt : Int))).set_ 2 (.slice A7 (0 + n + 1) c7)
      obtain ⟨r0, r1, r2⟩ := B8.c3
      have hO := HO7.out
      simp only [Nat.zero_add, List.nil_append] at hO r0 r1 r2 ⊢
      rw [← H1.out] at hO
      have D8 := ((HT.out _ HD7.out).setCell (p := ⟨w.heap.size + 1 + 1, 0, none⟩) (by simp; omega) (.int .u64 (base : Int))).setCell (p := ⟨w.heap.size + 1 + 1, 1, none⟩) (by simp; omega) (.int .u64 (bt : Int)) |>.setCell (p := ⟨w.heap.size + 1 + 1, 2, none⟩) (by simp; omega) (.slice A7 (n + 1) c7)
      refine bodyPost_ret (v := .agg #[.int .u64 (base : Int), .int .u64 (bt : Int), .slice A7 (n + 1) c7]) (by simp [results, Try.results84, go_sem, r0, r1, r2]) rfl ?_
      have hlt : w.heap.size + 1 + 1 < wb.heap.size := by have := HSZ.out; omega
      exact ⟨A7, c7, rfl, own_wide (own_set (own_set (own_set hO hlt _ _) hlt _ _) hlt _ _) (by omega), D8⟩
  ·
    obtain rfl := List.mem_singleton.1 hj
    refine wpOp_E rfl (fun K' hK => ?_)
    go_simp
    have D1 := HK1.out _ (.cells #[.int .u64 (t : Int), .int .i64 0, .slice none 0 0] 35) D0
    refine hK.out _ _ (fun _ => HX.out _ D1) (fun SN => ?_)
    clear hK
    try simp only [Act.put, List.setIfInBounds_toArray, List.set_cons_zero, List.set_cons_succ]
    refine wpAnyE_all (rs := [4]) (by kernel_rfl) (by simp) ?_
    intro j hj
    obtain rfl := List.mem_singleton.1 hj
    refine wpOp_E rfl (fun K' hK => ?_)
    go_simp
    have D2 := HK1.out _ (.cells #[] 35) D1
    refine hK.out _ _ (fun _ => HX.out _ D2) (fun SN => ?_)
    clear hK
    try simp only [Act.put, List.setIfInBounds_toArray, List.set_cons_zero, List.set_cons_succ]
    refine wpAnyE_all (rs := [7]) (by kernel_rfl) (by simp) ?_
    intro j hj
    obtain rfl := List.mem_singleton.1 hj
    refine wpOp_E rfl (fun K' hK => ?_)
    refine step_app _ rfl (.tmp 9) (.tmp 11) 23 rfl wb.heap.size 35 i0 _ 3 40 Try.underlying23 hi0 hz0 hz1 hz2 rfl (by omega) (.slice (some ⟨wb.heap.size + 1, 0, none⟩) 0 0) 0 [] (by simp [Act.eval, Act.put]) (own_wide (own_empty (wb.drew.alloc (.cells #[.int .u64 (t : Int), .int .i64 0, .slice none 0 0] 35)) (wb.heap.size + 1) 3 _ (by simp)) (Nat.le_succ _)) _ _ A n c _ (by simp [Act.eval, Act.put]) (HS.out _ (HT.out _ D2)) (ec_one _) (by simp only [maxLen]; omega) (by omega) (D2.size) ?_
    intro v6 w6 o6 g6 a6
    have D3 : Below wb.heap.size wb w6 := D2.grown g6 D2.size (fun k hk => by have h' : some (wb.heap.size + 1) = some k := hk; injection h' with h'; omega)
    refine hK.out _ _ (fun _ => HX.out _ D3) (fun SN => ?_)
    clear hK
    try simp only [Act.put, List.setIfInBounds_toArray, List.set_cons_zero, List.set_cons_succ]
    have q9 := ((sl_at wb.drew wb.heap.size 3 1 1 #[.int .u64 (t : Int), .int .i64 0, .slice none 0 0] 35 rfl rfl (Nat.le_refl _) (by decide)).alloc (by decide) (.cells #[] 35)).grown (by decide) g6 (fun k hk => by have h' : some (wb.heap.size + 1) = some k := hk; injection h' with h'; omega)
    refine wpAnyE_all (rs := [10]) (by kernel_rfl) (by simp) ?_
    intro j hj
    obtain rfl := List.mem_singleton.1 hj
    refine wpOp_E rfl (fun K' hK => ?_)
    refine step_app _ rfl (.tmp 12) (.tmp 14) 23 rfl wb.heap.size 35 i0 _ 3 40 Try.underlying23 hi0 hz0 hz1 hz2 rfl (by omega) v6 (0 + n) ([] ++ ecells es) (by simp [Act.eval, Act.put]) (o6) _ _ (some ⟨wb.heap.size, 0, none⟩) 1 1 (ecells [tent t]) (by simp [Act.eval, Act.put]) (q9) (ec_one _) (by simp only [maxLen]; omega) (by omega) (D3.size) ?_
    intro v7 w7 o7 g7 a7
    have D7 : Below wb.heap.size wb w7 := D3.grown g7 D3.size (fun k hk => (World.ownsRow.lt o6 k hk).1)
    refine hK.out _ _ (fun _ => HX.out _ D7) (fun SN => ?_)
    clear hK
    try simp only [Act.put, List.setIfInBounds_toArray, List.set_cons_zero, List.set_cons_succ]
    have B7 := HB4.out.after D7
    have HD7 := Lib.hid D7
    obtain ⟨A7, c7, hv7, -⟩ := own_sl o7
    subst hv7
    obtain ⟨z0, z1, z2⟩ := B7.c3
    have f0 := B7.frozen 0
    have f1 := B7.frozen 1
    have f2 := B7.frozen 2
    have HB7 := Lib.hid B7
    have HO7 := Lib.hid o7
    clear B7 o7 g7 a7 o6 g6 a6
    refine wpAnyE_all (rs := [11]) (by kernel_rfl) (by simp) ?_
    intro j hj
    obtain rfl := List.mem_singleton.1 hj
    refine wpOp_E rfl (fun K' hK => ?_)
    go_simp
    refine hK.out _ _ (fun _ => HX.out _ HD7.out) (fun SN => ?_)
    clear hK
    try simp only [Act.put, List.setIfInBounds_toArray, List.set_cons_zero, List.set_cons_succ]
    refine wpAnyE_all (rs := [12]) (by kernel_rfl) (by simp) ?_
    intro j hj
    obtain rfl := List.mem_singleton.1 hj
    refine wpOp_E rfl (fun K' hK => ?_)
    go_simp
    refine hK.out _ _ (fun h => absurd rfl h) (fun _ => ?_)
    clear hK
    try simp only [Act.put, List.setIfInBounds_toArray, List.set_cons_zero, List.set_cons_succ]
    refine wpAnyE_done (by kernel_rfl) ?_ _
    go_wp2
    have B8 := ((HB7.out.set_ 0 (.int .u64 (base : Int))).set_ 1 (.int .u64 (bt : Int))).set_ 2 (.slice A7 (0 + n + 1) c7)
    obtain ⟨r0, r1, r2⟩ := B8.c3
    have hO := HO7.out
    simp only [Nat.zero_add, List.nil_append] at hO r0 r1 r2 ⊢
    rw [← H1.out] at hO
    have D8 := ((HT.out _ HD7.out).setCell (p := ⟨w.heap.size + 1 + 1, 0, none⟩) (by simp; omega) (.int .u64 (base : Int))).setCell (p := ⟨w.heap.size + 1 + 1, 1, none⟩) (by simp; omega) (.int .u64 (bt : Int)) |>.setCell (p := ⟨w.heap.size + 1 + 1, 2, none⟩) (by simp; omega) (.slice A7 (n + 1) c7)
    refine bodyPost_ret (v := .agg #[.int .u64 (base : Int), .int .u64 (bt : Int), .slice A7 (n + 1) c7]) (by simp [results, Try.results84, go_sem, r0, r1, r2]) rfl ?_
    have hlt : w.heap.size + 1 + 1 < wb.heap.size := by have := HSZ.out; omega
    exact ⟨A7, c7, rfl, own_wide (own_set (own_set (own_set hO hlt _ _) hlt _ _) hlt _ _) (by omega), D8⟩
end Go.Proofs.Ytbgdepaffgeinaa
