import Derived.Test.YtbgdepaffgeinaaWDown
namespace Go.Proofs.Ytbgdepaffgeinaa
open Go.RowKit Go.Shelf
attribute [local go_sem] Oper.semAt_some

theorem down_stops (m f1 f2 n₀ g base bt n c p lo hi : Nat) (A : Option Addr) (es : List Ent) (w : World) (hb : base < 1152921504606846976) (hn : n ≤ 1000) (hp : p ≤ base + n) (hbp : base ≤ p) (h1 : f1 < n₀) (h1g : f1 ≠ g) (h2 : f2 < n₀) (h2g : f2 ≠ g) (hg : hi ≤ g) (hn0 : hi ≤ n₀) (hm : 1 ≤ m) (hnW : n₀ ≤ w.heap.size)
    (B1 : Blk w f1 22 #[.int .u64 (p : Int)]) (B2 : Blk w f2 25 #[.int .u64 (base : Int), .int .u64 (bt : Int), .slice A n c]) (hs : Sl w lo hi 3 A n c (ecells es)) :
    SeqStopsK Fence.wide m Try.prog 76 #[.pointer (some ⟨f1, 0, none⟩), .pointer (some ⟨f2, 0, none⟩)] (fun x : Nat × Nat => #[Value.int .u64 (x.1 : Nat), Value.int .u64 (x.2 : Nat)]) (KeepBut n₀ g)
      (fun ys => ys = downs base bt es p (p - base + 1)) (fun pre => ∃ k, k ≤ p - base + 1 ∧ pre = downs base bt es p k) (p - base + 1) w := fun l J Jx W hW hJ _ hY h0 => by
  exact down1_in m l f1 f2 n₀ g base bt n c p lo hi W.heap.size A es hb hn hp hbp h1 h1g h2 h2g hg hn0 hm J Jx W hJ (Nat.le_trans hnW hW.size) hY (B1.after hW) (B2.after hW) (hs.after (by decide) hW) h0
set_option maxRecDepth 100000 in
theorem down_any (base p n c : Nat) (bt : Int) (A : Option Addr) (w : World) :
    Calls Try.prog 52 #[.agg #[.int .u64 (base : Int), .int .u64 bt, .slice A n c], .int .u64 (p : Int)] w fun e w' =>
      e = .returned (.func (.func 76) #[] #[.pointer (some ⟨w.heap.size + 1, 0, none⟩), .pointer (some ⟨w.heap.size, 0, none⟩)]) ∧ w' = (w.alloc (.cells #[.int .u64 (base : Int), .int .u64 bt, .slice A n c] 25)).alloc (.cells #[.int .u64 (p : Int)] 22) := by
  go_enter Try.func52, Try.ntmps52
  go_wp2
  go_ret
  exact ⟨rfl, rfl⟩
def hscan (own base : Nat) : List (Nat × Nat) → Nat
  | [] => base
  | x :: xs => if x.2 = own then hscan own base xs else x.1
theorem run_min2u {P : Program} (ts : Array TypeId) (t : TypeId) (a b c N : Nat) (h : min a (b + c) = N) (W : World) :
    (Builtin.min_ ts t #[.int .u64 (a : Int), .int .u64 ((b : Int) + (c : Int))]).run P W = .ok (.int .u64 (N : Int)) W := by
  subst h
  have e : (if ((b : Int) + (c : Int)) < (a : Int) then ((b : Int) + (c : Int)) else (a : Int)) = ((min a (b + c) : Nat) : Int) := by
    split <;> omega
  rw [← e]
  rfl
theorem hscan_all {own base : Nat} {xs : List (Nat × Nat)} (h : ∀ x ∈ xs, x.2 = own) : hscan own base xs = base := by
  induction xs with
  | nil => rfl
  | cons x xs ih =>
    simp only [hscan]
    rw [if_pos (h x (List.mem_cons_self ..)), ih (fun y hy => h y (List.mem_cons_of_mem _ hy))]
theorem hscan_at {own base : Nat} {xs ys : List (Nat × Nat)} {x : Nat × Nat} (h : ∀ y ∈ xs, y.2 = own) (hx : x.2 ≠ own) : hscan own base (xs ++ x :: ys) = x.1 := by
  induction xs with
  | nil =>
    simp only [List.nil_append, hscan]
    rw [if_neg hx]
  | cons y xs ih =>
    simp only [List.cons_append, hscan]
    rw [if_pos (h y (List.mem_cons_self ..)), ih (fun z hz => h z (List.mem_cons_of_mem _ hz))]
theorem downs_prefix (base bt : Nat) (es : List Ent) (p k m : Nat) (h : k ≤ m) : ∃ r, downs base bt es p m = downs base bt es p k ++ r := by
  refine ⟨((List.range m).drop k).map fun j => (p - j, termAt base bt es (p - j)), ?_⟩
  unfold downs
  rw [← List.map_append]
  congr 1
  have : List.range k = (List.range m).take k := by rw [List.take_range, Nat.min_eq_left h]
  rw [this, List.take_append_drop]
def hintF (base bt : Nat) (es : List Ent) (prev : Nat) : Nat :=
  if min prev (base + es.length) ≤ base then base else hscan (termAt base bt es (min prev (base + es.length))) base (downs base bt es (min prev (base + es.length)) (min prev (base + es.length) - base + 1))
set_option maxRecDepth 100000 in
set_option maxHeartbeats 2000000 in
theorem hint_any (base bt n c prev lo hi : Nat) (A : Option Addr) (es : List Ent) (w : World) (hs : Sl w lo hi 3 A n c (ecells es)) (hb : base < 1152921504606846976) (hn : n ≤ 1000) (hp : prev < 18446744073709551616) :
    Calls Try.prog 22 #[.agg #[.int .u64 (base : Int), .int .u64 (bt : Int), .slice A n c], .int .u64 (prev : Int)] w fun e w' => e = .returned (.int .u64 (hintF base bt es prev : Nat)) ∧ Below w.heap.size w w' := by
  have hl : es.length = n := by have := hs.len; rw [ecells_len] at this; omega
  unfold hintF
  rw [hl]
  obtain ⟨p, hpd⟩ : ∃ p, min prev (base + n) = p := ⟨_, rfl⟩
  rw [hpd]
  have hpn : p ≤ base + n := by omega
  have hmn := run_min2u (P := Try.prog) #[22, 22] 22 prev base n p hpd
  have HP := Lib.hid hpd
  clear hpd
  by_cases h1 : p ≤ base
  · rw [if_pos h1]
    refine (callsIn_wide (n := 6)).1 ?_
    refine callsIn_of_wp_marks Try.func22 rfl trivial ?_ rfl
    simp only [Try.ntmps22, List.size_toArray, List.length_cons, List.length_nil, Nat.reduceAdd, Nat.reduceSub, Array.replicate_succ, Array.replicate_zero, List.push_toArray, List.append_toArray, List.nil_append, List.cons_append]
    refine wpIn_wide.2 ?_
    go_wp2
    go_step3
    go_wp2_with (go_at_call 15; refine (last_any base n c bt A _ hb hn).mono ?_; rintro e w1 ⟨rfl, hb1⟩; obtain ⟨x0, x1, x2⟩ := ((Blk.new w _ _).after hb1).c3)
    rw [Exit.noGoto_ret]
    refine ⟨_, results_tmp rfl _ _ _, rfl, below_boxed hb1⟩
  · rw [if_neg h1]
    have hT := fun w' (h : Below w.heap.size w w') => term_any base bt n c p lo _ A es w' (hs.now (by decide) |>.below h (Nat.le_refl _)) hb hn (by omega)
    generalize hTd : termAt base bt es p = T at hT ⊢
    generalize decide (base ≤ p ∧ p ≤ base + n) = d at hT
    have HTD := Lib.hid hTd
    have HT := Lib.hid hT
    clear hTd hT
    refine (callsIn_wide (n := 6)).1 ?_
    refine callsIn_of_wp_marks Try.func22 rfl trivial ?_ rfl
    simp only [Try.ntmps22, List.size_toArray, List.length_cons, List.length_nil, Nat.reduceAdd, Nat.reduceSub, Array.replicate_succ, Array.replicate_zero, List.push_toArray, List.append_toArray, List.nil_append, List.cons_append]
    refine wpIn_wide.2 ?_
    go_wp2
    go_step3
    go_wp2_with fail
    refine (last_any base n c bt A _ hb hn).mono ?_
    rintro e w1 ⟨rfl, hb1⟩
    obtain ⟨x0, x1, x2⟩ := ((Blk.new w _ _).after hb1).c3
    have D1 := below_boxed hb1
    go_wp2_with fail
    refine (HT.out _ D1).mono ?_
    rintro e w2 ⟨rfl, hb2⟩
    have D2 := D1.trans (hb2.mono D1.size)
    have B2 := ((Blk.new w _ _).after hb1).after hb2
    obtain ⟨y0, y1, y2⟩ := B2.c3
    obtain ⟨ya0, ya1, ya2⟩ := (B2.alloc (.cells #[.int .u64 (T : Int)] 22)).c3
    obtain ⟨yb0, yb1, yb2⟩ := ((B2.alloc (.cells #[.int .u64 (T : Int)] 22)).alloc (.cells #[.int .u64 (base : Int)] 22)).c3
    go_wp2_with fail
    go_step3
    go_wp2_with (go_at_call 52; refine (down_any base p n c bt A _).mono ?_; rintro e w3 ⟨rfl, rfl⟩)
    have hlg := B2.lt
    have Bown := (((Blk.new w2 22 #[.int .u64 (T : Int)]).alloc (.cells #[.int .u64 (base : Int)] 22)).alloc (.cells #[.int .u64 (base : Int), .int .u64 (bt : Int), .slice A n c] 25)).alloc (.cells #[.int .u64 (p : Int)] 22)
    have Bout := ((Blk.new (w2.alloc (.cells #[.int .u64 (T : Int)] 22)) 22 #[.int .u64 (base : Int)]).alloc (.cells #[.int .u64 (base : Int), .int .u64 (bt : Int), .slice A n c] 25)).alloc (.cells #[.int .u64 (p : Int)] 22)
    have Blog := (Blk.new ((w2.alloc (.cells #[.int .u64 (T : Int)] 22)).alloc (.cells #[.int .u64 (base : Int)] 22)) 25 #[.int .u64 (base : Int), .int .u64 (bt : Int), .slice A n c]).alloc (.cells #[.int .u64 (p : Int)] 22)
    have Bfrom := Blk.new (((w2.alloc (.cells #[.int .u64 (T : Int)] 22)).alloc (.cells #[.int .u64 (base : Int)] 22)).alloc (.cells #[.int .u64 (base : Int), .int .u64 (bt : Int), .slice A n c] 25)) 22 #[.int .u64 (p : Int)]
    have DW := (((D2.alloc D2.size (.cells #[.int .u64 (T : Int)] 22)).alloc (by simp; have := D2.size; omega) (.cells #[.int .u64 (base : Int)] 22)).alloc (by simp; have := D2.size; omega) (.cells #[.int .u64 (base : Int), .int .u64 (bt : Int), .slice A n c] 25)).alloc (by simp; have := D2.size; omega) (.cells #[.int .u64 (p : Int)] 22)
    simp only [alloc_size] at Bown Bout Blog Bfrom
    generalize hWW : (((w2.alloc (Obj.cells #[.int .u64 (T : Int)] 22)).alloc (Obj.cells #[.int .u64 (base : Int)] 22)).alloc (Obj.cells #[.int .u64 (base : Int), .int .u64 (bt : Int), .slice A n c] 25)).alloc (Obj.cells #[.int .u64 (p : Int)] 22) = WW at Bown Bout Blog Bfrom DW ⊢
    have hWs : WW.heap.size = w2.heap.size + 4 := by rw [← hWW]; simp
    have D2s := D2.size
    have hseq := down_stops 5 (w2.heap.size + 1 + 1 + 1) (w2.heap.size + 1 + 1) (w2.heap.size + 4) (w2.heap.size + 1) base bt n c p lo w.heap.size A es WW hb hn hpn (by omega) (by omega) (by omega) (by omega) (by omega) (by omega) (by omega) (by omega) (by omega) Bfrom Blog ((hs.now (by decide)).below DW (Nat.le_refl _))
    refine (wpIn_wide (n := 6)).1 ?_
    refine wpIn_rangeFunc_ownF rfl (by omega) (gf := 76) (lb := #[.pointer (some ⟨w2.heap.size + 1 + 1 + 1, 0, none⟩), .pointer (some ⟨w2.heap.size + 1 + 1, 0, none⟩)]) rfl trivial (enters_of Try.func76 (by kernel_rfl) rfl) hseq KeepBut.trans ?hKb (Below.refl _ _) (fun _ => rfl)
      (fun pre W => (∀ x ∈ pre, x.2 = T) ∧ Blk W w2.heap.size 22 #[.int .u64 (T : Int)] ∧ Blk W (w2.heap.size + 1) 22 #[.int .u64 (base : Int)] ∧ Below w.heap.size w W)
      (fun cc pre W => cc = .exit 0 ∧ ∃ pre' x, pre = pre' ++ [x] ∧ (∀ y ∈ pre', y.2 = T) ∧ x.2 ≠ T ∧ Blk W (w2.heap.size + 1) 22 #[.int .u64 (x.1 : Nat)] ∧ Below w.heap.size w W)
      ?hI ?hIx ⟨by simp, Bown, Bout, DW⟩
      (fun x => { tmps := #[.agg #[.int .u64 (base : Int), .int .u64 (bt : Int), .slice A n c], .int .u64 (prev : Int), .pointer (some ⟨w.heap.size, 0, none⟩), undef, .int .u64 0, .int .u64 (p : Int), .pointer (some ⟨w2.heap.size, 0, none⟩), .bool d, .pointer (some ⟨w2.heap.size + 1, 0, none⟩), .int .u64 (x.1 : Int), .int .u64 (x.2 : Int), .int .u64 (prev : Int), .agg #[.int .u64 (base : Int), .int .u64 (bt : Int), .slice A n c], .int .u64 ((base : Int) + n), .int .u64 (p : Int), .int .u64 (p : Int), .pointer (some ⟨w.heap.size, 0, none⟩), .int .u64 (base : Int), .bool false, undef, undef, .tuple #[.int .u64 (T : Int), .bool d], .agg #[.int .u64 (base : Int), .int .u64 (bt : Int), .slice A n c], .int .u64 (p : Int), .tuple #[.int .u64 (T : Int), .bool d], .int .u64 (T : Int), .bool d, .pointer (some ⟨w.heap.size, 0, none⟩), .int .u64 (base : Int), .agg #[.int .u64 (base : Int), .int .u64 (bt : Int), .slice A n c], .int .u64 (p : Int), .func (.func 76) #[] #[.pointer (some ⟨w2.heap.size + 1 + 1 + 1, 0, none⟩), .pointer (some ⟨w2.heap.size + 1 + 1, 0, none⟩)], .int .u64 (x.1 : Int), .int .u64 (x.2 : Int), undef, undef, undef, undef, undef], defers := [] }) ?assign ?body ?done ?stop
    case hKb =>
      intro W l o o' hl ho hc hw
      exact ⟨(grownBy_putObj' W l o').size, fun k hk hg => World.putObj_heap_other (by omega)⟩
    case hI =>
      intro pre X Y row ⟨h1, h2, h3, h4⟩ hg hr
      exact ⟨h1, h2.grown hg (fun e => by have := (hr _ e.symm).1; omega), h3.grown hg (fun e => by have := (hr _ e.symm).1; omega), h4.grown hg h4.size (fun k e => by have := (hr _ e).1; omega)⟩
    case hIx =>
      intro cc pre X Y row ⟨hc, pre', x, h1, h2, h3, h4, h5⟩ hg hr
      exact ⟨hc, pre', x, h1, h2, h3, h4.grown hg (fun e => by have := (hr _ e.symm).1; omega), h5.grown hg h5.size (fun k e => by have := (hr _ e).1; omega)⟩
    case assign =>
      intro l x W K hK
      gi_wp2
      exact hK
    case body =>
      rintro l pre x W ⟨h1, h2, h3, h4⟩ _
      have z := h2.c1
      have z' := h3.c1
      have zf := h3.frozen 0
      by_cases hx : x.2 = T
      · have heq : ((x.2 : Int) != (T : Int)) = false := by simp; omega
        gi_wp2
        refine ⟨KeepsOthers.refl _, KeepBut.refl _ _ _, ?_, h2, h3, h4⟩
        intro y hy
        rcases List.mem_append.1 hy with h | h
        · exact h1 y h
        · rw [List.mem_singleton.1 h]; exact hx
      · have heq : ((x.2 : Int) != (T : Int)) = true := by simp; omega
        gi_wp2
        exact ⟨KeepsOthers.setCell _ _ _, rfl, pre, x, rfl, h1, hx, h3.set_ 0 _, h4.setCell (by simp; omega) _⟩
    case done =>
      rintro D ys W hD rfl ⟨h1, h2, h3, h4⟩ hK
      have z' := h3.c1
      go_wp2
      rw [Exit.noGoto_ret]
      refine ⟨by simp, .inl ⟨_, _, rfl, run_takeDeferred hK, ?_⟩⟩
      refine ⟨_, results_tmp rfl _ _ _, ?_, h4.trans (belowK_b (w := w) (Nat.le_refl _) W D _ _ (by omega) hK rfl rfl)⟩
      rw [hscan_all h1]
      rfl
    case stop =>
      rintro D cc pre W hD ⟨k, hk, rfl⟩ ⟨rfl, pre', x, h1, h2, h3, h4, h5⟩ hK
      have z' := h4.c1
      refine wpIn_wide.2 ?_
      go_wp2
      rw [Exit.noGoto_ret]
      refine ⟨by simp, .inl ⟨_, _, rfl, run_takeDeferred hK, ?_⟩⟩
      refine ⟨_, results_tmp rfl _ _ _, ?_, h5.trans (belowK_b (w := w) (Nat.le_refl _) W D _ _ (by omega) hK rfl rfl)⟩
      obtain ⟨r, hr⟩ := downs_prefix base bt es p k (p - base + 1) hk
      rw [hr, h1, List.append_assoc, List.singleton_append, hscan_at h2 h3]
      rfl
end Go.Proofs.Ytbgdepaffgeinaa
