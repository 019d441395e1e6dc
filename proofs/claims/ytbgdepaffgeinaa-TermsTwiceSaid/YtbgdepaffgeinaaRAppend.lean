import Derived.Test.YtbgdepaffgeinaaWTermsTells
namespace Go.Proofs.Ytbgdepaffgeinaa
open Go.RowKit

/-- what holds behind k entries of the document's Append: the number a behind which it goes on, from where on it is another log (f, 0: nowhere yet), what is built (O) -/
def RA (base bt n : Nat) (es : List Ent) (prev : Nat) (xs : List Ent) (S : List Ent × Nat) (k a f : Nat) (O : List Ent) : Prop :=
  (prev + k < base ∧ f = 0 ∧ O = [] ∧ a = base) ∨
  (base ≤ prev + k ∧ f = 0 ∧ O = es.take (a - base) ∧ base ≤ a ∧ a ≤ prev + k ∧ prev + k ≤ base + n ∧ S = scan base bt es (prev + k + 1) (xs.drop k)) ∨
  (base < f ∧ prev < f ∧ f ≤ prev + k ∧ f ≤ base + n + 1 ∧ O = es.take (f - base - 1) ++ (xs.take k).drop (f - prev - 1) ∧ S = (es.take (f - base - 1) ++ xs.drop (f - prev - 1), f))
theorem take_succ_at {es : List Ent} {k : Nat} {e : Ent} (h : es[k]? = some e) : es.take (k + 1) = es.take k ++ [e] := by
  obtain ⟨h1, h2⟩ := List.getElem?_eq_some_iff.1 h
  rw [List.take_succ_eq_append_getElem h1, h2]
theorem RA.skip {base bt n : Nat} {es : List Ent} {prev : Nat} {xs : List Ent} {S : List Ent × Nat} {k : Nat} (h : prev + k < base) (hS : S = scan base bt es (base + 1) (xs.drop (base - prev))) : RA base bt n es prev xs S (k + 1) base 0 [] := by
  by_cases h1 : prev + (k + 1) < base
  · exact .inl ⟨h1, rfl, rfl, rfl⟩
  · have e : prev + (k + 1) = base := by omega
    refine .inr (.inl ⟨by omega, rfl, by simp, Nat.le_refl _, by omega, by omega, ?_⟩)
    rw [hS, e, show base - prev = k + 1 by omega]
theorem RA.own {base bt n : Nat} {es : List Ent} {prev : Nat} {xs ys : List Ent} {S : List Ent × Nat} {k : Nat} {x y : Ent} (hl : es.length = n) (h : base ≤ prev + k) (hn : prev + 1 + k ≤ base + n) (hS : S = scan base bt es (prev + k + 1) (xs.drop k))
    (hd : xs.drop k = x :: ys) (hd' : xs.drop (k + 1) = ys) (hy : es[prev + k - base]? = some y) (ht : y.t = x.t) : RA base bt n es prev xs S (k + 1) (prev + 1 + k) 0 (es.take (prev + k - base) ++ [y]) := by
  refine .inr (.inl ⟨by omega, rfl, ?_, by omega, by omega, by omega, ?_⟩)
  · rw [← take_succ_at hy, show prev + 1 + k - base = prev + k - base + 1 by omega]
  · have hT : termAt base bt es (prev + k + 1) = x.t := by
      unfold termAt
      rw [if_neg (by omega), entAt_in (by omega) (by rw [← hy]; congr 1; omega), ht]
    rw [hS, hd, scan_yes (by omega) hT, hd', show prev + k + 1 + 1 = prev + (k + 1) + 1 by omega]
theorem RA.new {base bt n : Nat} {es : List Ent} {prev : Nat} {xs ys : List Ent} {S : List Ent × Nat} {k : Nat} {x : Ent} (hl : es.length = n) (h : base ≤ prev + k) (hn : prev + k ≤ base + n) (hS : S = scan base bt es (prev + k + 1) (xs.drop k))
    (hd : xs.drop k = x :: ys) (hx : xs[k]? = some x) (ht : ¬ (prev + 1 + k ≤ base + n ∧ (entAt base es (prev + 1 + k)).t = x.t)) : RA base bt n es prev xs S (k + 1) (prev + 1 + k) (prev + 1 + k) (es.take (prev + k - base) ++ [x]) := by
  refine .inr (.inr ⟨by omega, by omega, by omega, by omega, ?_, ?_⟩)
  · rw [show prev + 1 + k - base - 1 = prev + k - base by omega, show prev + 1 + k - prev - 1 = k by omega, take_succ_at hx, List.drop_append_of_le_length (by simp; have := (List.getElem?_eq_some_iff.1 hx).1; omega), List.drop_eq_nil_of_le (by simp; omega), List.nil_append]
  · have hT : ¬ (prev + k + 1 ≤ base + es.length ∧ termAt base bt es (prev + k + 1) = x.t) := by
      rintro ⟨h1, h2⟩
      unfold termAt at h2
      rw [if_neg (by omega), show prev + k + 1 = prev + 1 + k by omega] at h2
      exact ht ⟨by omega, h2⟩
    rw [hS, hd, scan_no hT, show prev + k + 1 - base - 1 = prev + 1 + k - base - 1 by omega, show prev + 1 + k - prev - 1 = k by omega, hd, show prev + k + 1 = prev + 1 + k by omega]
theorem RA.more {base bt n : Nat} {es : List Ent} {prev : Nat} {xs : List Ent} {S : List Ent × Nat} {k f a : Nat} {x : Ent} {O : List Ent} (h1 : base < f) (h2 : prev < f) (h3 : f ≤ prev + k) (h4 : f ≤ base + n + 1) (h5 : O = es.take (f - base - 1) ++ (xs.take k).drop (f - prev - 1)) (h6 : S = (es.take (f - base - 1) ++ xs.drop (f - prev - 1), f))
    (hx : xs[k]? = some x) : RA base bt n es prev xs S (k + 1) a f (O ++ [x]) := by
  refine .inr (.inr ⟨h1, h2, by omega, h4, ?_, h6⟩)
  have := (List.getElem?_eq_some_iff.1 hx).1
  rw [take_succ_at hx, List.drop_append_of_le_length (by simp; omega), ← List.append_assoc, ← h5]
theorem RA.len {base bt n : Nat} {es : List Ent} {prev : Nat} {xs : List Ent} {S : List Ent × Nat} {k f a : Nat} {O : List Ent} (h : RA base bt n es prev xs S k a f O) (hl : es.length = n) (hm : xs.length ≤ 1000) (hn : n ≤ 1000) : O.length ≤ 2000 := by
  rcases h with ⟨_, _, rfl, _⟩ | ⟨_, _, rfl, _⟩ | ⟨_, _, _, _, rfl, _⟩ <;> simp <;> omega
theorem RA.end_ {base bt n : Nat} {es : List Ent} {prev : Nat} {xs : List Ent} {S : List Ent × Nat} {k f a : Nat} {O : List Ent} (h : RA base bt n es prev xs S k a f O) (hk : k = xs.length) (hge : base ≤ prev + k) : (f = 0 ∧ S = (es, 0)) ∨ (f ≠ 0 ∧ S = (O, f)) := by
  subst hk
  rcases h with ⟨h, _⟩ | ⟨_, rfl, _, _, _, _, hS⟩ | ⟨h1, h2, h3, _, h5, h6⟩
  · omega
  · refine .inl ⟨rfl, ?_⟩
    rw [hS]
    simp [scan]
  · refine .inr ⟨by omega, ?_⟩
    rw [h6, h5]
    simp

set_option maxRecDepth 100000 in
set_option maxHeartbeats 4000000 in
theorem rappend_any (base bt n c prev pt m d lo hi lo' hi' : Nat) (A B : Option Addr) (es xs : List Ent) (w : World) (hs : Sl w lo hi 3 A n c (ecells es)) (hx : Sl w lo' hi' 3 B m d (ecells xs)) (hb : base < 1152921504606846976) (hn : n ≤ 1000) (hm : m ≤ 1000) :
    Calls Try.prog 29 #[.agg #[.int .u64 (base : Int), .int .u64 (bt : Int), .slice A n c], .int .u64 (prev : Int), .int .u64 (pt : Int), .slice B m d] w fun e w' =>
      ∃ A' n' c' E i code, e = .returned (.tuple #[.agg #[.int .u64 (base : Int), .int .u64 (bt : Int), .slice A' n' c'], .int .u64 (i : Nat), .int .i64 (code : Nat)]) ∧ appendF base bt es prev pt xs = (E, i, code) ∧ (∃ lo hi, Sl w' lo hi 3 A' n' c' (ecells E)) ∧ Below w.heap.size w w' := by
  obtain ⟨i0, hi0, hz0, hz1, hz2⟩ := info_parts en_info
  have hl : es.length = n := by have := hs.len; rw [ecells_len] at this; omega
  have hlx : xs.length = m := by have := hx.len; rw [ecells_len] at this; omega
  have hcap := hs.cap
  have hmax := hs.max
  have hcapx := hx.cap
  have hmaxx := hx.max
  by_cases g1 : base + n < prev
  · have hF : appendF base bt es prev pt xs = (es, 0, 60) := by
      unfold appendF fitsE
      rw [hl, if_pos g1]; rfl
    go_enter Try.func29, Try.ntmps29
    go_wp2_with fail
    refine (rlast_any base n c bt A _ hb hn).mono ?_
    rintro e w1 ⟨rfl, hb1⟩
    obtain ⟨x0, x1, x2⟩ := (((Blk.new w _ _).alloc _).after hb1).c3
    have B2 := (Blk.new _ _ _).after hb1
    simp only [alloc_size] at B2
    have D1 := below_boxed (below_boxed hb1)
    obtain ⟨y0, y1, y2⟩ := B2.c3
    have z0 := B2.frozen 0
    have z1 := B2.frozen 1
    have z2 := B2.frozen 2
    go_wp2_with fail
    have B4 := ((B2.set_ 0 (.int .u64 (base : Int))).set_ 1 (.int .u64 (bt : Int))).set_ 2 (.slice A n c)
    have D3 := ((D1.setCell (p := ⟨w.heap.size + 1, 0, none⟩) (Nat.le_succ _) (.int .u64 (base : Int))).setCell (p := ⟨w.heap.size + 1, 1, none⟩) (Nat.le_succ _) (.int .u64 (bt : Int))).setCell (p := ⟨w.heap.size + 1, 2, none⟩) (Nat.le_succ _) (.slice A n c)
    obtain ⟨r0, r1, r2⟩ := B4.c3
    refine bodyPost_ret (v := .tuple #[.agg #[.int .u64 (base : Int), .int .u64 (bt : Int), .slice A n c], .int .u64 0, .int .i64 60]) (by simp [results, Try.results29, go_sem, r0, r1, r2]) rfl ?_
    exact ⟨A, n, c, es, 0, 60, rfl, hF, ⟨lo, w.heap.size, (hs.now (by decide)).below D3 (Nat.le_refl _)⟩, D3⟩
  · by_cases g2 : prev < base ∧ prev + m ≤ base
    · have hF : appendF base bt es prev pt xs = (es, 0, 61) := by
        unfold appendF fitsE
        rw [hl, hlx, if_neg g1, if_pos g2.1, if_pos g2.2]; rfl
      obtain ⟨g3, g4⟩ := g2
      have q1 : decide (prev < base) = true := decide_eq_true g3
      go_enter Try.func29, Try.ntmps29
      go_wp2_with fail
      refine (rlast_any base n c bt A _ hb hn).mono ?_
      rintro e w1 ⟨rfl, hb1⟩
      obtain ⟨x0, x1, x2⟩ := (((Blk.new w _ _).alloc _).after hb1).c3
      have B2 := (Blk.new _ _ _).after hb1
      simp only [alloc_size] at B2
      have D1 := below_boxed (below_boxed hb1)
      obtain ⟨y0, y1, y2⟩ := B2.c3
      have z0 := B2.frozen 0
      have z1 := B2.frozen 1
      have z2 := B2.frozen 2
      go_wp2_with fail
      have B4 := ((B2.set_ 0 (.int .u64 (base : Int))).set_ 1 (.int .u64 (bt : Int))).set_ 2 (.slice A n c)
      have D3 := ((D1.setCell (p := ⟨w.heap.size + 1, 0, none⟩) (Nat.le_succ _) (.int .u64 (base : Int))).setCell (p := ⟨w.heap.size + 1, 1, none⟩) (Nat.le_succ _) (.int .u64 (bt : Int))).setCell (p := ⟨w.heap.size + 1, 2, none⟩) (Nat.le_succ _) (.slice A n c)
      obtain ⟨r0, r1, r2⟩ := B4.c3
      refine bodyPost_ret (v := .tuple #[.agg #[.int .u64 (base : Int), .int .u64 (bt : Int), .slice A n c], .int .u64 0, .int .i64 61]) (by simp [results, Try.results29, go_sem, r0, r1, r2]) rfl ?_
      exact ⟨A, n, c, es, 0, 61, rfl, hF, ⟨lo, w.heap.size, (hs.now (by decide)).below D3 (Nat.le_refl _)⟩, D3⟩
    · have hT := fun w' (h : Below w.heap.size w w') => rterm_any base bt n c prev lo _ A es w' (hs.now (by decide) |>.below h (Nat.le_refl _)) hb hn
      generalize hTd : termAt base bt es prev = T at hT
      have HTD := Lib.hid hTd
      clear hTd
      by_cases g3 : ¬ prev < base ∧ T ≠ pt
      · have hF : appendF base bt es prev pt xs = (es, 0, 60) := by
          unfold appendF fitsE
          rw [hl, hlx, if_neg g1, if_neg g3.1, HTD.out, if_neg g3.2]; rfl
        obtain ⟨g4, g5⟩ := g3
        rw [decide_eq_true (p := base ≤ prev ∧ prev ≤ base + n) ⟨by omega, by omega⟩] at hT
        have q1 : decide (prev < base) = false := decide_eq_false g4
        have q2 : ((T : Int) != (pt : Int)) = true := by simp; omega
        have HT := Lib.hid hT
        have HF := Lib.hid hF
        clear hT g5 g2 hF
        go_enter Try.func29, Try.ntmps29
        go_wp2_with fail
        refine (rlast_any base n c bt A _ hb hn).mono ?_
        rintro e w1 ⟨rfl, hb1⟩
        obtain ⟨x0, x1, x2⟩ := (((Blk.new w _ _).alloc _).after hb1).c3
        have D0 := below_boxed (below_boxed hb1)
        go_wp2_with fail
        refine (HT.out _ D0).mono ?_
        rintro e w2 ⟨rfl, hb2⟩
        have B1 := (((Blk.new w _ _).alloc _).after hb1).after hb2
        have B2 := ((Blk.new _ _ _).after hb1).after hb2
        simp only [alloc_size] at B2
        have D1 := D0.trans (hb2.mono D0.size)
        obtain ⟨xa0, xa1, xa2⟩ := B1.c3
        obtain ⟨y0, y1, y2⟩ := B2.c3
        have z0 := B2.frozen 0
        have z1 := B2.frozen 1
        have z2 := B2.frozen 2
        go_wp2_with fail
        have B4 := ((B2.set_ 0 (.int .u64 (base : Int))).set_ 1 (.int .u64 (bt : Int))).set_ 2 (.slice A n c)
        have D3 := ((D1.setCell (p := ⟨w.heap.size + 1, 0, none⟩) (Nat.le_succ _) (.int .u64 (base : Int))).setCell (p := ⟨w.heap.size + 1, 1, none⟩) (Nat.le_succ _) (.int .u64 (bt : Int))).setCell (p := ⟨w.heap.size + 1, 2, none⟩) (Nat.le_succ _) (.slice A n c)
        obtain ⟨r0, r1, r2⟩ := B4.c3
        refine bodyPost_ret (v := .tuple #[.agg #[.int .u64 (base : Int), .int .u64 (bt : Int), .slice A n c], .int .u64 0, .int .i64 60]) (by simp [results, Try.results29, go_sem, r0, r1, r2]) rfl ?_
        exact ⟨A, n, c, es, 0, 60, rfl, HF.out, ⟨lo, w.heap.size, (hs.now (by decide)).below D3 (Nat.le_refl _)⟩, D3⟩
      · obtain ⟨S, hS⟩ : ∃ S, scan base bt es (max prev base + 1) (xs.drop (base - prev)) = S := ⟨_, rfl⟩
        have hF : appendF base bt es prev pt xs = (S.1, S.2, 0) := by
          have h0 : fitsE base bt es prev pt xs.length = 0 := by
            unfold fitsE
            rw [hl, hlx, if_neg g1]
            by_cases g4 : prev < base
            · rw [if_pos g4, if_neg (by omega)]
            · rw [if_neg g4, HTD.out, if_pos (by omega)]
          unfold appendF
          rw [if_neg (by rw [h0]; simp), ← hS]
          by_cases g4 : prev < base
          · rw [if_pos g4, show max prev base = base by omega]
          · rw [if_neg g4, show max prev base = prev by omega, show base - prev = 0 by omega, List.drop_zero]
        have hge : base ≤ prev + m := by omega
        have hR0 : RA base bt n es prev xs S 0 base 0 [] := by
          by_cases g4 : prev < base
          · exact .inl ⟨by omega, rfl, rfl, rfl⟩
          · refine .inr (.inl ⟨by omega, rfl, by simp, Nat.le_refl _, by omega, by omega, ?_⟩)
            rw [← hS, show max prev base = prev by omega, show base - prev = 0 by omega]
        have hSk : ∀ k, prev + k < base → S = scan base bt es (base + 1) (xs.drop (base - prev)) := fun k hk => by rw [← hS, show max prev base = base by omega]
        have hq : (prev < base ∧ ¬ prev + m ≤ base) ∨ (¬ prev < base ∧ ((T : Int) != (pt : Int)) = false) := by
          by_cases g4 : prev < base
          · exact .inl ⟨g4, by omega⟩
          · exact .inr ⟨g4, by simp; omega⟩
        have HS := Lib.hid hSk
        have HF := Lib.hid hF
        have HR0 := Lib.hid hR0
        have HL := Lib.hid hl
        have HLX := Lib.hid hlx
        clear hS hSk hF hR0 g2 g3 hl
        have hE := fun i w' (h : Below w.heap.size w w') => rentry_any base bt n c i lo _ A es w' (hs.now (by decide) |>.below h (Nat.le_refl _)) hb hn
        have HE := Lib.hid hE
        clear hE
        rcases hq with ⟨g3, g4⟩ | ⟨g3, g4⟩
        all_goals
          first
            | have q1 : decide (prev < base) = true := decide_eq_true g3
            | have q1 : decide (prev < base) = false := decide_eq_false g3
          first
            | (have q2 : decide (base ≤ prev ∧ prev ≤ base + n) = true := decide_eq_true ⟨by omega, by omega⟩
               rw [q2] at hT
               clear q2)
            | generalize decide (base ≤ prev ∧ prev ≤ base + n) = dd at hT
          have HT := Lib.hid hT
          clear hT
          have qa : decide ((base : Int) + (n : Int) < (prev : Int)) = false := decide_eq_false (by omega)
          first
            | (have qb : decide ((prev : Int) + (m : Int) ≤ (base : Int)) = false := decide_eq_false (by omega)
               have qd : decide (base ≤ prev) = false := decide_eq_false (by omega))
            | have qd : decide (base ≤ prev) = true := decide_eq_true (by omega)
          go_enter Try.func29, Try.ntmps29
          go_wp2_with fail
          refine (rlast_any base n c bt A _ hb hn).mono ?_
          rintro e w1 ⟨rfl, hb1⟩
          obtain ⟨x0, x1, x2⟩ := (((Blk.new w _ _).alloc _).after hb1).c3
          have D0 := below_boxed (below_boxed hb1)
          go_wp2_with fail
          refine (HT.out _ D0).mono ?_
          rintro e w2 ⟨rfl, hb2⟩
          have B1 := (((Blk.new w _ _).alloc _).after hb1).after hb2
          have B2 := ((Blk.new _ _ _).after hb1).after hb2
          simp only [alloc_size] at B2
          have D1 := D0.trans (hb2.mono D0.size)
          have hg := Nat.le_trans hb1.size hb2.size
          simp only [alloc_size] at hg
          obtain ⟨xa0, xa1, xa2⟩ := B1.c3
          clear x0 x1 x2 D0 hb1 hb2
          go_wp2_with fail
          go_loopw [13, 14, 15, 16] (fun out at_ from_ i wr => ∃ (k a f t : Nat) (O : List Ent), k ≤ m ∧ i = .int .i64 k ∧ at_ = .int .u64 a ∧ from_ = .int .u64 f ∧ RA base bt n es prev xs S k a f O ∧ O.length = t ∧ wr.ownsRow (w.heap.size + 2) 35 3 out t (ecells O) ∧ Blk wr w.heap.size 28 #[.int .u64 (base : Int), .int .u64 (bt : Int), .slice A n c] ∧ Blk wr (w.heap.size + 1) 28 #[.int .u64 0, .int .u64 0, .slice none 0 0] ∧ w.heap.size + 2 ≤ wr.heap.size ∧ Below w.heap.size w wr) (fun _ _ _ i _ => m - (intOf i).toNat)
          case atStart => exact ⟨0, base, 0, 0, [], Nat.zero_le _, rfl, rfl, rfl, HR0.out, rfl, World.ownsRow_nil _ _ _ _, B1, B2, hg, D1⟩
          case round =>
            obtain ⟨k, a, f, t, O, hk, rfl, rfl, rfl, hR, hO, hown, B1r, B2r, hgr, Dr⟩ := hrel
            clear B1 B2 xa0 xa1 xa2 D1 hg
            obtain ⟨x0, x1, x2⟩ := B1r.c3
            have ht2 : t ≤ 2000 := by rw [← hO]; exact hR.len HL.out (by have := HLX.out; omega) hn
            have HO := Lib.hid hO
            clear hO
            by_cases hlt : k < m
            · obtain ⟨ad, x, rfl, hxk, c0, c1, c2⟩ := ((hx.now (by decide)).below Dr (Nat.le_refl _)).ent hlt
              have HX := Lib.hid hxk
              clear hxk
              have HR := Lib.hid hR
              clear hR
              by_cases hA : prev + k < base
              · try (exfalso; omega)
                all_goals
                  have hR := HR.out
                  obtain ⟨rfl, rfl, rfl⟩ : f = 0 ∧ O = [] ∧ a = base := by
                    rcases hR with ⟨_, h1, h2, h3⟩ | ⟨h, _⟩ | ⟨h1, h2, h3, _⟩
                    · exact ⟨h1, h2, h3⟩
                    · omega
                    · omega
                  clear hR
                  go_wp2
                  go_roundw
                  case rel => exact ⟨k + 1, a, 0, t, [], by omega, by go_num, rfl, rfl, RA.skip hA (HS.out k hA), HO.out, hown, B1r, B2r, hgr, Dr⟩
                  case measure => simp [intOf]; omega
              · by_cases hf : f = 0
                · subst hf
                  have hB : O = es.take (a - base) ∧ base ≤ a ∧ a ≤ prev + k ∧ prev + k ≤ base + n ∧ S = scan base bt es (prev + k + 1) (xs.drop k) := by
                    rcases HR.out with ⟨h, _⟩ | ⟨_, _, h⟩ | ⟨h, _⟩
                    · omega
                    · exact h
                    · omega
                  obtain ⟨hO, h1, h2, h3, hSB⟩ := hB
                  have HSB := Lib.hid hSB
                  have hdr : xs.drop k = x :: xs.drop (k + 1) := by
                    obtain ⟨q1, q2⟩ := List.getElem?_eq_some_iff.1 HX.out
                    rw [List.drop_eq_getElem_cons q1, q2]
                  have HDR := Lib.hid hdr
                  have ht : t = a - base := by
                    rw [← HO.out, hO, List.length_take, HL.out]; omega
                  subst hO ht
                  clear hSB hdr HR HO
                  have qc : decide ((prev : Int) + 1 + (k : Int) ≤ (base : Int)) = false := decide_eq_false (by omega)
                  go_wp2
                  go_loopw [13, 14] (fun out at_ wi => ∃ (b : Nat), base ≤ b ∧ b ≤ prev + k ∧ at_ = .int .u64 b ∧ wi.ownsRow (w.heap.size + 2) 35 3 out (b - base) (ecells (es.take (b - base))) ∧ Blk wi w.heap.size 28 #[.int .u64 (base : Int), .int .u64 (bt : Int), .slice A n c] ∧ Blk wi (w.heap.size + 1) 28 #[.int .u64 0, .int .u64 0, .slice none 0 0] ∧ w.heap.size + 2 ≤ wi.heap.size ∧ Below w.heap.size w wi) (fun _ b _ => prev + k - (intOf b).toNat)
                  case atStart => exact ⟨a, h1, h2, rfl, hown, B1r, B2r, hgr, Dr⟩
                  case round =>
                    obtain ⟨b, hb1, hb2, rfl, hown1, B1i, B2i, hgi, Di⟩ := hrel
                    clear hown B1r B2r hgr Dr x0 x1 x2 c0 c1 c2
                    obtain ⟨x0, x1, x2⟩ := B1i.c3
                    by_cases hbk : b < prev + k
                    · obtain ⟨y, hy⟩ : ∃ y, es[b - base]? = some y := ⟨_, List.getElem?_eq_getElem (by have := HL.out; omega)⟩
                      have hee : entAt base es (b + 1) = y := entAt_in (by omega) (by rw [← hy]; congr 1; omega)
                      have hE := HE.out (b + 1)
                      rw [hee, show ((b + 1 : Nat) : Int) = (b : Int) + 1 by omega] at hE
                      generalize decide (base < b + 1 ∧ b + 1 ≤ base + n) = de at hE
                      have HY := Lib.hid hy
                      have HEE := Lib.hid hE
                      clear hy hee hE
                      obtain ⟨yt, yk, yA, yc, yl⟩ := y
                      simp only [Ent.v] at HEE
                      go_wp2_with fail
                      refine (HEE.out _ Di).mono ?_
                      rintro e w4 ⟨rfl, hb4⟩
                      have hown4 := own_after hown1 hb4
                      have D4 := Di.trans (hb4.mono Di.size)
                      have B14 := B1i.after hb4
                      have B24 := B2i.after hb4
                      have hg4 := Nat.le_trans hgi hb4.size
                      clear hb4
                      go_wp2_with (at_builtin; refine wpList_app _ rfl (.tmp 92) (.tmp 94) 23 rfl (w.heap.size + 2) 35 i0 _ 3 40 Try.underlying23 hi0 hz0 hz1 hz2 rfl (by omega) u13 (b - base) (ecells (es.take (b - base))) rfl ((hown4.alloc _).alloc _) _ _ _ 1 1 (ecells [⟨yt, yk, yA, yc, yl⟩]) rfl (sl_at (w4.alloc _) (w4.heap.size + 1) 3 1 1 _ _ (by simp) rfl (Nat.le_refl _) (by decide)) (ec_one _) (by simp only [maxLen]; omega) (by omega) (by simp; omega) ?_; intro v2 w2 hown2 hg2 hat2)
                      have bs : w.heap.size + 2 ≤ ((w4.alloc (Obj.cells #[.int .u64 (yt : Int), .int .i64 yk, .slice yA yl.length yc] 35)).alloc (Obj.cells #[.int .u64 (yt : Int), .int .i64 yk, .slice yA yl.length yc] 35)).heap.size := by simp; omega
                      go_roundw
                      case rel =>
                        have e1 : b + 1 - base = b - base + 1 := by omega
                        have fin : ∃ b' : Nat, base ≤ b' ∧ b' ≤ prev + k ∧ Value.int .u64 ((b : Int) + 1) = .int .u64 b' ∧ w2.ownsRow (w.heap.size + 2) 35 3 v2 (b' - base) (ecells (es.take (b' - base))) ∧ Blk w2 w.heap.size 28 #[.int .u64 (base : Int), .int .u64 (bt : Int), .slice A n c] ∧ Blk w2 (w.heap.size + 1) 28 #[.int .u64 0, .int .u64 0, .slice none 0 0] ∧ w.heap.size + 2 ≤ w2.heap.size ∧ Below w.heap.size w w2 :=
                          ⟨b + 1, by omega, by omega, by go_num, by rw [e1, take_succ_at HY.out, ecells_append]; exact hown2, ((B14.alloc _).alloc _).grown hg2 (own_off hown4 (by omega)), ((B24.alloc _).alloc _).grown hg2 (own_off hown4 (by omega)), Nat.le_trans bs hg2.size, (below_alloc' (below_alloc' D4 _ (Nat.le_refl _)) _ (Nat.le_refl _)).grown hg2 (by omega) (fun q e => by have := (hown4.lt q e).1; omega)⟩
                        first | exact fin | exact ⟨_, _, _, _, _, _, _, _, _, _, _, _, _, _, _, _, _, _, _, _, _, fin, rfl⟩
                      case measure => simp [intOf]; omega
                    · have hbe : b = prev + k := by omega
                      subst hbe
                      have hE := HE.out (prev + 1 + k)
                      rw [show ((prev + 1 + k : Nat) : Int) = (prev : Int) + 1 + (k : Int) by omega] at hE
                      generalize hyd : entAt base es (prev + 1 + k) = y at hE
                      have HYD := Lib.hid hyd
                      clear hyd
                      obtain ⟨yt, yk, yA, yc, yl⟩ := y
                      simp only [Ent.v] at hE
                      have hxe := HX.out
                      by_cases hin : prev + 1 + k ≤ base + n
                      · rw [decide_eq_true (p := base < prev + 1 + k ∧ prev + 1 + k ≤ base + n) ⟨by omega, hin⟩] at hE
                        have HEE := Lib.hid hE
                        clear hE
                        go_wp2_with fail
                        refine (HEE.out _ Di).mono ?_
                        rintro e w4 ⟨rfl, hb4⟩
                        have hown4 := (own_after hown1 hb4).alloc (Obj.cells #[.int .u64 (yt : Int), .int .i64 yk, .slice yA yl.length yc] 35)
                        have D4 := below_alloc' (Di.trans (hb4.mono Di.size)) (Obj.cells #[.int .u64 (yt : Int), .int .i64 yk, .slice yA yl.length yc] 35) (Nat.le_refl _)
                        have B14 := (B1i.after hb4).alloc (Obj.cells #[.int .u64 (yt : Int), .int .i64 yk, .slice yA yl.length yc] 35)
                        have B24 := (B2i.after hb4).alloc (Obj.cells #[.int .u64 (yt : Int), .int .i64 yk, .slice yA yl.length yc] 35)
                        have hg4 : w.heap.size + 2 ≤ w4.heap.size := Nat.le_trans hgi hb4.size
                        obtain ⟨ad', x', had, hx', c0, c1, c2⟩ := ((hx.now (by decide)).below D4 (Nat.le_refl _)).ent hlt
                        obtain rfl : ad = ad' := Option.some.inj had
                        obtain rfl : x = x' := by rw [hxe] at hx'; exact Option.some.inj hx'
                        clear hb4 had hx' hxe
                        by_cases htx : yt = x.t
                        · have q5 : ((yt : Int) == (x.t : Int)) = true := by simp; omega
                          have HTX := Lib.hid htx
                          clear htx
                          go_wp2
                          have hy2 : es[prev + k - base]? = some ⟨yt, yk, yA, yc, yl⟩ := by
                            have := HYD.out
                            rw [← this]
                            unfold entAt
                            rw [if_pos (by omega), show prev + 1 + k - base - 1 = prev + k - base by omega]
                            rw [List.getElem?_eq_getElem (by have := HL.out; omega)]; rfl
                          have HY2 := Lib.hid hy2
                          clear hy2
                          go_quiet (fail)
                          go_wp2_with (at_builtin; refine wpList_app _ rfl (.tmp 115) (.tmp 117) 23 rfl (w.heap.size + 2) 35 i0 _ 3 40 Try.underlying23 hi0 hz0 hz1 hz2 rfl (by omega) u13 (prev + k - base) (ecells (es.take (prev + k - base))) rfl ((own_drewN hown4 _).alloc _) _ _ _ 1 1 (ecells [⟨yt, yk, yA, yc, yl⟩]) rfl (sl_at _ (w4.heap.size + 1) 3 1 1 _ _ (by simp) rfl (Nat.le_refl _) (by decide)) (ec_one _) (by simp only [maxLen]; omega) (by omega) (by simp; omega) ?_; intro v2 w2 hown2 hg2 hat2)
                          have bs : w.heap.size + 2 ≤ (((w4.alloc (Obj.cells #[.int .u64 (yt : Int), .int .i64 yk, .slice yA yl.length yc] 35)).drewN nq).alloc (Obj.cells #[.int .u64 (yt : Int), .int .i64 yk, .slice yA yl.length yc] 35)).heap.size := by simp; omega
                          have hlen : (es.take (prev + k - base)).length = prev + k - base := by rw [List.length_take, HL.out]; omega
                          go_roundw
                          case rel =>
                            have fin : ∃ (k' a' f' t' : Nat) (O' : List Ent), k' ≤ m ∧ Value.int .i64 ((k : Int) + 1) = .int .i64 k' ∧ Value.int .u64 ((prev : Int) + 1 + (k : Int)) = .int .u64 a' ∧ Value.int .u64 ((0 : Nat) : Int) = .int .u64 f' ∧ RA base bt n es prev xs S k' a' f' O' ∧ O'.length = t' ∧ w2.ownsRow (w.heap.size + 2) 35 3 v2 t' (ecells O') ∧ Blk w2 w.heap.size 28 #[.int .u64 (base : Int), .int .u64 (bt : Int), .slice A n c] ∧ Blk w2 (w.heap.size + 1) 28 #[.int .u64 0, .int .u64 0, .slice none 0 0] ∧ w.heap.size + 2 ≤ w2.heap.size ∧ Below w.heap.size w w2 :=
                              ⟨k + 1, prev + 1 + k, 0, prev + k - base + 1, es.take (prev + k - base) ++ [⟨yt, yk, yA, yc, yl⟩], by omega, by go_num, by go_num, rfl, RA.own HL.out (by omega) hin HSB.out HDR.out rfl HY2.out HTX.out, by simp [hlen], by rw [ecells_append]; exact hown2, (((B14).drewN nq).alloc _).grown hg2 (own_off hown4 (by omega)), (((B24).drewN nq).alloc _).grown hg2 (own_off hown4 (by omega)), Nat.le_trans bs hg2.size, (below_alloc' (below_drewN (D4) nq) _ (Nat.le_refl _)).grown hg2 (by omega) (fun q e => by have := (hown4.lt q e).1; omega)⟩
                            first | exact fin | simpa using fin
                          case measure => simp [intOf]; omega
                        · have q5 : ((yt : Int) == (x.t : Int)) = false := by simp; omega
                          have hno : ¬ (prev + 1 + k ≤ base + n ∧ (entAt base es (prev + 1 + k)).t = x.t) := by rw [HYD.out]; exact fun h => htx h.2
                          have HNO := Lib.hid hno
                          clear htx hno
                          go_wp2
                          go_quiet (fail)
                          go_wp2_with (at_builtin; refine wpList_app _ rfl (.tmp 121) (.tmp 126) 23 rfl (w.heap.size + 2) 35 i0 _ 3 40 Try.underlying23 hi0 hz0 hz1 hz2 rfl (by omega) u13 (prev + k - base) (ecells (es.take (prev + k - base))) rfl ((own_drewN hown4 _).alloc _) _ _ _ 1 1 (ecells [x]) rfl (sl_at _ (w4.heap.size + 1) 3 1 1 _ _ (by simp) rfl (Nat.le_refl _) (by decide)) (ec_one _) (by simp only [maxLen]; omega) (by omega) (by simp; omega) ?_; intro v2 w2 hown2 hg2 hat2)
                          have bs : w.heap.size + 2 ≤ (((w4.alloc (Obj.cells #[.int .u64 (yt : Int), .int .i64 yk, .slice yA yl.length yc] 35)).drewN nq).alloc (Obj.cells #[.int .u64 (x.t : Int), .int .i64 x.k, .slice x.A x.l.length x.c] 35)).heap.size := by simp; omega
                          have hlen : (es.take (prev + k - base)).length = prev + k - base := by rw [List.length_take, HL.out]; omega
                          go_roundw
                          case rel =>
                            have fin : ∃ (k' a' f' t' : Nat) (O' : List Ent), k' ≤ m ∧ Value.int .i64 ((k : Int) + 1) = .int .i64 k' ∧ Value.int .u64 ((prev : Int) + 1 + (k : Int)) = .int .u64 a' ∧ Value.int .u64 (((prev + 1 + k) : Nat) : Int) = .int .u64 f' ∧ RA base bt n es prev xs S k' a' f' O' ∧ O'.length = t' ∧ w2.ownsRow (w.heap.size + 2) 35 3 v2 t' (ecells O') ∧ Blk w2 w.heap.size 28 #[.int .u64 (base : Int), .int .u64 (bt : Int), .slice A n c] ∧ Blk w2 (w.heap.size + 1) 28 #[.int .u64 0, .int .u64 0, .slice none 0 0] ∧ w.heap.size + 2 ≤ w2.heap.size ∧ Below w.heap.size w w2 :=
                              ⟨k + 1, prev + 1 + k, (prev + 1 + k), prev + k - base + 1, es.take (prev + k - base) ++ [x], by omega, by go_num, by go_num, rfl, RA.new HL.out (by omega) h3 HSB.out HDR.out HX.out HNO.out, by simp [hlen], by rw [ecells_append]; exact hown2, (((B14).drewN nq).alloc _).grown hg2 (own_off hown4 (by omega)), (((B24).drewN nq).alloc _).grown hg2 (own_off hown4 (by omega)), Nat.le_trans bs hg2.size, (below_alloc' (below_drewN (D4) nq) _ (Nat.le_refl _)).grown hg2 (by omega) (fun q e => by have := (hown4.lt q e).1; omega)⟩
                            first | exact fin | simpa using fin
                          case measure => simp [intOf]; omega
                      · rw [decide_eq_false (p := base < prev + 1 + k ∧ prev + 1 + k ≤ base + n) (by omega)] at hE
                        have hno : ¬ (prev + 1 + k ≤ base + n ∧ (entAt base es (prev + 1 + k)).t = x.t) := fun h => hin h.1
                        have HNO := Lib.hid hno
                        have HEE := Lib.hid hE
                        clear hE hno
                        go_wp2_with fail
                        refine (HEE.out _ Di).mono ?_
                        rintro e w4 ⟨rfl, hb4⟩
                        have hown4 := (own_after hown1 hb4).alloc (Obj.cells #[.int .u64 (yt : Int), .int .i64 yk, .slice yA yl.length yc] 35)
                        have D4 := below_alloc' (Di.trans (hb4.mono Di.size)) (Obj.cells #[.int .u64 (yt : Int), .int .i64 yk, .slice yA yl.length yc] 35) (Nat.le_refl _)
                        have B14 := (B1i.after hb4).alloc (Obj.cells #[.int .u64 (yt : Int), .int .i64 yk, .slice yA yl.length yc] 35)
                        have B24 := (B2i.after hb4).alloc (Obj.cells #[.int .u64 (yt : Int), .int .i64 yk, .slice yA yl.length yc] 35)
                        have hg4 : w.heap.size + 2 ≤ w4.heap.size := Nat.le_trans hgi hb4.size
                        obtain ⟨ad', x', had, hx', c0, c1, c2⟩ := ((hx.now (by decide)).below D4 (Nat.le_refl _)).ent hlt
                        obtain rfl : ad = ad' := Option.some.inj had
                        obtain rfl : x = x' := by rw [hxe] at hx'; exact Option.some.inj hx'
                        clear hb4 had hx' hxe
                        go_wp2
                        go_quiet (fail)
                        go_wp2_with (at_builtin; refine wpList_app _ rfl (.tmp 121) (.tmp 126) 23 rfl (w.heap.size + 2) 35 i0 _ 3 40 Try.underlying23 hi0 hz0 hz1 hz2 rfl (by omega) u13 (prev + k - base) (ecells (es.take (prev + k - base))) rfl ((own_drewN hown4 _).alloc _) _ _ _ 1 1 (ecells [x]) rfl (sl_at _ (w4.heap.size + 1) 3 1 1 _ _ (by simp) rfl (Nat.le_refl _) (by decide)) (ec_one _) (by simp only [maxLen]; omega) (by omega) (by simp; omega) ?_; intro v2 w2 hown2 hg2 hat2)
                        have bs : w.heap.size + 2 ≤ (((w4.alloc (Obj.cells #[.int .u64 (yt : Int), .int .i64 yk, .slice yA yl.length yc] 35)).drewN nq).alloc (Obj.cells #[.int .u64 (x.t : Int), .int .i64 x.k, .slice x.A x.l.length x.c] 35)).heap.size := by simp; omega
                        have hlen : (es.take (prev + k - base)).length = prev + k - base := by rw [List.length_take, HL.out]; omega
                        go_roundw
                        case rel =>
                          have fin : ∃ (k' a' f' t' : Nat) (O' : List Ent), k' ≤ m ∧ Value.int .i64 ((k : Int) + 1) = .int .i64 k' ∧ Value.int .u64 ((prev : Int) + 1 + (k : Int)) = .int .u64 a' ∧ Value.int .u64 (((prev + 1 + k) : Nat) : Int) = .int .u64 f' ∧ RA base bt n es prev xs S k' a' f' O' ∧ O'.length = t' ∧ w2.ownsRow (w.heap.size + 2) 35 3 v2 t' (ecells O') ∧ Blk w2 w.heap.size 28 #[.int .u64 (base : Int), .int .u64 (bt : Int), .slice A n c] ∧ Blk w2 (w.heap.size + 1) 28 #[.int .u64 0, .int .u64 0, .slice none 0 0] ∧ w.heap.size + 2 ≤ w2.heap.size ∧ Below w.heap.size w w2 :=
                            ⟨k + 1, prev + 1 + k, (prev + 1 + k), prev + k - base + 1, es.take (prev + k - base) ++ [x], by omega, by go_num, by go_num, rfl, RA.new HL.out (by omega) h3 HSB.out HDR.out HX.out HNO.out, by simp [hlen], by rw [ecells_append]; exact hown2, (((B14).drewN nq).alloc _).grown hg2 (own_off hown4 (by omega)), (((B24).drewN nq).alloc _).grown hg2 (own_off hown4 (by omega)), Nat.le_trans bs hg2.size, (below_alloc' (below_drewN (D4) nq) _ (Nat.le_refl _)).grown hg2 (by omega) (fun q e => by have := (hown4.lt q e).1; omega)⟩
                          first | exact fin | simpa using fin
                        case measure => simp [intOf]; omega
                · have hC : base < f ∧ prev < f ∧ f ≤ prev + k ∧ f ≤ base + n + 1 ∧ O = es.take (f - base - 1) ++ (xs.take k).drop (f - prev - 1) ∧ S = (es.take (f - base - 1) ++ xs.drop (f - prev - 1), f) := by
                    rcases HR.out with ⟨_, h1, _⟩ | ⟨_, h1, _⟩ | h
                    · exact absurd h1 hf
                    · exact absurd h1 hf
                    · exact h
                  obtain ⟨h1, h2, h3, h4, h5, h6⟩ := hC
                  have H5 := Lib.hid h5
                  have H6 := Lib.hid h6
                  have q3 : ((f : Int) == 0) = false := by simp; omega
                  clear h5 h6
                  go_wp2_with (at_builtin; refine wpList_app _ rfl (.tmp 121) (.tmp 126) 23 rfl (w.heap.size + 2) 35 i0 _ 3 40 Try.underlying23 hi0 hz0 hz1 hz2 rfl (by omega) u13 t (ecells O) rfl (hown.alloc _) _ _ _ 1 1 (ecells [x]) rfl (sl_at _ _ 3 1 1 _ _ rfl rfl (Nat.le_refl _) (by decide)) (ec_one _) (by simp only [maxLen]; omega) (by omega) (by simp; omega) ?_; intro v2 w2 hown2 hg2 hat2)
                  have bs : w.heap.size + 2 ≤ (wr.alloc (Obj.cells #[.int .u64 (x.t : Int), .int .i64 x.k, .slice x.A x.l.length x.c] 35)).heap.size := by simp; omega
                  go_roundw
                  case rel => exact ⟨k + 1, prev + 1 + k, f, t + 1, O ++ [x], by omega, by go_num, by go_num, rfl, RA.more h1 h2 h3 h4 H5.out H6.out HX.out, by simp [HO.out], by rw [ecells_append]; exact hown2, (B1r.alloc _).grown hg2 (own_off hown (by omega)), (B2r.alloc _).grown hg2 (own_off hown (by omega)), Nat.le_trans bs hg2.size, (below_alloc' Dr _ (Nat.le_refl _)).grown hg2 (by omega) (fun q e => by have := (hown.lt q e).1; omega)⟩
                  case measure => simp [intOf]; omega
            · have hkm : k = m := by omega
              rcases hR.end_ (by rw [HLX.out]; exact hkm) (by omega) with ⟨hf, hSS⟩ | ⟨hf, hSS⟩
              · subst hf
                have HSS := Lib.hid hSS
                clear hSS hR hkm
                obtain ⟨y0, y1, y2⟩ := B2r.c3
                have z0 := B2r.frozen 0
                have z1 := B2r.frozen 1
                have z2 := B2r.frozen 2
                go_wp2_with fail
                have B4 := ((B2r.set_ 0 (.int .u64 (base : Int))).set_ 1 (.int .u64 (bt : Int))).set_ 2 (.slice A n c)
                have D3 := ((Dr.setCell (p := ⟨w.heap.size + 1, 0, none⟩) (Nat.le_succ _) (.int .u64 (base : Int))).setCell (p := ⟨w.heap.size + 1, 1, none⟩) (Nat.le_succ _) (.int .u64 (bt : Int))).setCell (p := ⟨w.heap.size + 1, 2, none⟩) (Nat.le_succ _) (.slice A n c)
                obtain ⟨r0, r1, r2⟩ := B4.c3
                refine bodyPost_ret (v := .tuple #[.agg #[.int .u64 (base : Int), .int .u64 (bt : Int), .slice A n c], .int .u64 0, .int .i64 0]) (by simp [results, Try.results29, go_sem, r0, r1, r2]) rfl ?_
                exact ⟨A, n, c, es, 0, 0, rfl, by rw [HF.out, HSS.out], ⟨lo, w.heap.size, (hs.now (by decide)).below D3 (Nat.le_refl _)⟩, D3⟩
              · have q3 : ((f : Int) == 0) = false := by simp; omega
                have HSS := Lib.hid hSS
                obtain ⟨A', c', rfl, hsl⟩ := own_sl hown
                clear hSS hR hkm hown
                obtain ⟨y0, y1, y2⟩ := B2r.c3
                have z0 := B2r.frozen 0
                have z1 := B2r.frozen 1
                have z2 := B2r.frozen 2
                go_wp2_with fail
                have B4 := ((B2r.set_ 0 (.int .u64 (base : Int))).set_ 1 (.int .u64 (bt : Int))).set_ 2 (.slice A' t c')
                have D3 := ((Dr.setCell (p := ⟨w.heap.size + 1, 0, none⟩) (Nat.le_succ _) (.int .u64 (base : Int))).setCell (p := ⟨w.heap.size + 1, 1, none⟩) (Nat.le_succ _) (.int .u64 (bt : Int))).setCell (p := ⟨w.heap.size + 1, 2, none⟩) (Nat.le_succ _) (.slice A' t c')
                obtain ⟨r0, r1, r2⟩ := B4.c3
                refine bodyPost_ret (v := .tuple #[.agg #[.int .u64 (base : Int), .int .u64 (bt : Int), .slice A' t c'], .int .u64 (f : Nat), .int .i64 0]) (by simp [results, Try.results29, go_sem, r0, r1, r2]) rfl ?_
                exact ⟨A', t, c', O, f, 0, rfl, by rw [HF.out, HSS.out], ⟨_, _, ((hsl.setCell (p := ⟨w.heap.size + 1, 0, none⟩) (.inl (by simp)) _).setCell (p := ⟨w.heap.size + 1, 1, none⟩) (.inl (by simp)) _).setCell (p := ⟨w.heap.size + 1, 2, none⟩) (.inl (by simp)) _⟩, D3⟩
end Go.Proofs.Ytbgdepaffgeinaa
