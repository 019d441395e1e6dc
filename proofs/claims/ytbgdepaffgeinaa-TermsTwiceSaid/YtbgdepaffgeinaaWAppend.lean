import Derived.Test.YtbgdepaffgeinaaWCut
import Derived.Deep.RegionLaw
import Derived.Deep.DeepCutAuto
import Derived.Deep.RegionWith
namespace Go.Proofs.Ytbgdepaffgeinaa
open Go.RowKit

/-- what is appended from number i on: the log's entries then, and from where on they are others (0: none) -/
def scan (base bt : Nat) (es : List Ent) : Nat → List Ent → List Ent × Nat
  | _, [] => (es, 0)
  | i, x :: xs => if i ≤ base + es.length ∧ termAt base bt es i = x.t then scan base bt es (i + 1) xs else (es.take (i - base - 1) ++ x :: xs, i)
def appendF (base bt : Nat) (es : List Ent) (prev pt : Nat) (xs : List Ent) : List Ent × Nat × Nat :=
  if fitsE base bt es prev pt xs.length ≠ 0 then (es, 0, fitsE base bt es prev pt xs.length)
  else if prev < base then ((scan base bt es (base + 1) (xs.drop (base - prev))).1, (scan base bt es (base + 1) (xs.drop (base - prev))).2, 0)
  else ((scan base bt es (prev + 1) xs).1, (scan base bt es (prev + 1) xs).2, 0)
theorem fitsE_lt (base bt : Nat) (es : List Ent) (prev pt m : Nat) : fitsE base bt es prev pt m < 100 := by
  unfold fitsE
  repeat' split
  all_goals decide
theorem fitsE_ok {base bt : Nat} {es : List Ent} {prev pt m : Nat} (h : fitsE base bt es prev pt m = 0) : prev ≤ base + es.length ∧ (prev < base → base - prev < m) := by
  unfold fitsE at h
  repeat' split at h
  all_goals omega
theorem scan_yes {base bt : Nat} {es : List Ent} {i : Nat} {x : Ent} {xs : List Ent} (h1 : i ≤ base + es.length) (h2 : termAt base bt es i = x.t) : scan base bt es i (x :: xs) = scan base bt es (i + 1) xs := by
  conv => lhs; unfold scan
  rw [if_pos ⟨h1, h2⟩]
theorem scan_no {base bt : Nat} {es : List Ent} {i : Nat} {x : Ent} {xs : List Ent} (h : ¬ (i ≤ base + es.length ∧ termAt base bt es i = x.t)) : scan base bt es i (x :: xs) = (es.take (i - base - 1) ++ x :: xs, i) := by
  conv => lhs; unfold scan
  rw [if_neg h]

set_option maxRecDepth 100000 in
set_option maxHeartbeats 1600000 in
theorem append_any (base bt n c prev pt m d lo hi lo' hi' : Nat) (A B : Option Addr) (es xs : List Ent) (w : World) (hs : Sl w lo hi 3 A n c (ecells es)) (hx : Sl w lo' hi' 3 B m d (ecells xs)) (hb : base < 1152921504606846976) (hn : n ≤ 1000) (hm : m ≤ 1000) (hp : prev < 18446744073709551616) :
    Calls Try.prog 28 #[.agg #[.int .u64 (base : Int), .int .u64 (bt : Int), .slice A n c], .int .u64 (prev : Int), .int .u64 (pt : Int), .slice B m d] w fun e w' =>
      ∃ A' n' c' E i code, e = .returned (.tuple #[.agg #[.int .u64 (base : Int), .int .u64 (bt : Int), .slice A' n' c'], .int .u64 (i : Nat), .int .i64 (code : Nat)]) ∧ appendF base bt es prev pt xs = (E, i, code) ∧ (∃ lo hi, Sl w' lo hi 3 A' n' c' (ecells E)) ∧ Below w.heap.size w w' := by
  obtain ⟨i0, hi0, hz0, hz1, hz2⟩ := info_parts en_info
  have hl : es.length = n := by have := hs.len; rw [ecells_len] at this; omega
  have hlx : xs.length = m := by have := hx.len; rw [ecells_len] at this; omega
  have hcap := hs.cap
  have hmax := hs.max
  have hcapx := hx.cap
  have hmaxx := hx.max
  have hF := fits_any base bt n c prev pt m lo _ A es ((w.alloc (.cells #[.int .u64 (base : Int), .int .u64 (bt : Int), .slice A n c] 25)).alloc (.cells #[.int .u64 0, .int .u64 0, .slice none 0 0] 25)) ((hs.alloc (by decide) _).alloc (by decide) _) hb hn hm hp
  have hok := @fitsE_ok base bt es prev pt m
  have hlt := fitsE_lt base bt es prev pt m
  have hAF : appendF base bt es prev pt xs = appendF base bt es prev pt xs := rfl
  conv at hAF => rhs; unfold appendF; rw [hlx]
  rw [hl] at hok
  have HAF := Lib.hid hAF
  clear hAF
  generalize fitsE base bt es prev pt m = code at hF hok hlt HAF
  by_cases h0 : code = 0
  · subst h0
    obtain ⟨hle, hsk⟩ := hok rfl
    have hT := fun i (hi : i < 18446744073709551616) w' (h : Below w.heap.size w w') => term_any base bt n c i lo _ A es w' (hs.now (by decide) |>.below h (Nat.le_refl _)) hb hn hi
    have HT := Lib.hid hT
    clear hT hok
    by_cases h1 : prev < base
    · have hsk := hsk h1
      obtain ⟨A1, hA1, hcut⟩ := cut_l 23 35 i0 3 Try.underlying23 hi0 hz1 .u64 B m d ((base : Int) - (prev : Int)) (m - (base - prev)) (d - (base - prev)) (by omega) (by omega) hcapx (by omega) (by omega)
      have htn : ((base : Int) - (prev : Int)).toNat = base - prev := by omega
      have hsub := hx.sub (A' := A1) (k := base - prev) (m := m - (base - prev)) (c' := d - (base - prev)) (by omega) (by omega) (by omega) (by intro hp; rw [hA1 hp, htn])
      have hE : ((ecells xs).drop ((base - prev) * 3)).take ((m - (base - prev)) * 3) = ecells (xs.drop (base - prev)) := by
        rw [← ecells_drop, ← ecells_take, List.take_of_length_le (by simp; omega)]
      rw [hE] at hsub
      have HAF' : Hid (appendF base bt es prev pt xs = ((scan base bt es (base + 1) (xs.drop (base - prev))).1, (scan base bt es (base + 1) (xs.drop (base - prev))).2, 0)) := by
        show _ = _
        rw [HAF.out, if_neg (by simp), if_pos h1]
      generalize xs.drop (base - prev) = ys at hsub HAF'
      obtain ⟨m1, hm1⟩ : ∃ m1, m - (base - prev) = m1 := ⟨_, rfl⟩
      obtain ⟨d1, hd1⟩ : ∃ d1, d - (base - prev) = d1 := ⟨_, rfl⟩
      rw [hm1] at hsub hcut
      rw [hd1] at hsub hcut
      have hm1' : m1 ≤ 1000 := by omega
      have hpb : (base : Int) = ((base : Nat) : Int) := rfl
      have hbp : base ≤ base := Nat.le_refl _
      have hpn : base ≤ base + n := by omega
      clear hE hA1 htn hm1 hd1 HAF hx hsk hlx hpb
      go_enter Try.func28, Try.ntmps28
      go_wp2_with fail
      refine hF.mono ?_
      rintro e w1 ⟨rfl, hb1⟩
      obtain ⟨x0, x1, x2⟩ := (((Blk.new w _ _).alloc _).after hb1).c3
      have B1 := ((Blk.new w _ _).alloc _).after hb1
      have B2 := (Blk.new _ _ _).after hb1
      simp only [alloc_size] at B2
      have D1 := below_boxed (below_boxed hb1)
      have hg := hb1.size
      simp only [alloc_size] at hg
      clear hF hb1
      go_wp2_with fail
      go_loopw [41] (fun i wr => ∃ k : Nat, k ≤ m1 ∧ base + k ≤ base + n ∧ i = .int .i64 k ∧ scan base bt es (base + 1) ys = scan base bt es (base + 1 + k) (ys.drop k) ∧ Blk wr w.heap.size 25 #[.int .u64 (base : Int), .int .u64 (bt : Int), .slice A n c] ∧ Blk wr (w.heap.size + 1) 25 #[.int .u64 0, .int .u64 0, .slice none 0 0] ∧ w.heap.size + 2 ≤ wr.heap.size ∧ Below w.heap.size w wr) (fun i _ => m1 - (intOf i).toNat)
      case atStart => exact ⟨0, Nat.zero_le _, by omega, rfl, rfl, B1, B2, hg, D1⟩
      case round =>
        obtain ⟨k, hk, hpk, rfl, hsc, B1r, B2r, hgr, Dr⟩ := hrel
        clear B1 B2 x0 x1 x2 D1 hg
        obtain ⟨x0, x1, x2⟩ := B1r.c3
        by_cases hlt : k < m1
        · obtain ⟨ad, x, rfl, hxk, c0, c1, c2⟩ := ((hsub.now (by decide)).below Dr (Nat.le_refl _)).ent hlt
          have hdrop : ys.drop k = x :: ys.drop (k + 1) := by
            obtain ⟨q1, q2⟩ := List.getElem?_eq_some_iff.1 hxk
            rw [List.drop_eq_getElem_cons q1, q2]
          have hi2 : ((base + 1 + k : Nat) : Int) = (base : Int) + 1 + (k : Int) := by omega
          have hT := HT.out (base + 1 + k) (by omega)
          rw [hi2] at hT
          rw [hdrop] at hsc
          have hyes := @scan_yes base bt es (base + 1 + k) x (ys.drop (k + 1))
          have hno := @scan_no base bt es (base + 1 + k) x (ys.drop (k + 1))
          rw [hl] at hyes hno
          generalize termAt base bt es (base + 1 + k) = T at hT hyes hno
          have HSC := Lib.hid hsc
          have HYES := Lib.hid hyes
          have HNO := Lib.hid hno
          have HDR := Lib.hid hdrop
          obtain ⟨xa0, xa1, xa2⟩ := (B1r.alloc (.cells #[.int .u64 (x.t : Int), .int .i64 x.k, .slice x.A x.l.length x.c] 35)).c3
          clear hsc hyes hno hdrop hxk
          by_cases hin : base + 1 + k ≤ base + n
          · have hd : decide (base ≤ base + 1 + k ∧ base + 1 + k ≤ base + n) = true := decide_eq_true ⟨by omega, hin⟩
            rw [hd] at hT
            by_cases htx : T = x.t
            · have heq : ((T : Int) == (x.t : Int)) = true := by simp; omega
              have HTX := Lib.hid htx
              clear htx
              go_wp2_with fail
              refine (hT _ (Dr.alloc Dr.size _)).mono ?_
              rintro e w2 ⟨rfl, hb2⟩
              have hb2' := below_boxed hb2
              obtain ⟨u0, u1, u2⟩ := ((Blk.new wr _ _).after hb2).c3
              go_wp2_with fail
              go_roundw
              case rel => exact ⟨k + 1, by omega, by omega, by go_num, by rw [HSC.out, HYES.out hin HTX.out, Nat.add_assoc (base + 1) k 1], B1r.after hb2', B2r.after hb2', Nat.le_trans hgr hb2'.size, Dr.trans (hb2'.mono Dr.size)⟩
              case measure => simp [intOf]; omega
            · have heq : ((T : Int) == (x.t : Int)) = false := by simp; omega
              have HS2 : Hid (scan base bt es (base + 1) ys = (es.take (base + 1 + k - base - 1) ++ ys.drop k, base + 1 + k)) := by
                show _ = _
                rw [HSC.out, HNO.out (fun h => htx h.2), HDR.out]
              clear htx
              go_wp2_with fail
              refine (hT _ (Dr.alloc Dr.size _)).mono ?_
              rintro e w2 ⟨rfl, hb2⟩
              have hb2' := below_boxed hb2
              obtain ⟨u0, u1, u2⟩ := ((Blk.new wr _ _).after hb2).c3
              go_wp2_with fail
              have B1s := B1r.after hb2'
              have B2s := B2r.after hb2'
              have D2 := Dr.trans (hb2'.mono Dr.size)
              have hg2 : w.heap.size + 2 ≤ w2.heap.size := Nat.le_trans hgr hb2'.size
              obtain ⟨v0, v1, v2⟩ := B1s.c3
              have hw1 : IntKind.u64.wrap ((base : Int) + 1 + (k : Int) - (base : Int)) = (base : Int) + 1 + (k : Int) - (base : Int) := by rw [IntKind.wrap_u64]; omega
              have hw2 : IntKind.u64.wrap ((base : Int) + 1 + (k : Int) - (base : Int) - 1) = (base : Int) + 1 + (k : Int) - (base : Int) - 1 := by rw [IntKind.wrap_u64]; omega
              obtain ⟨A3, hA3, hcutA⟩ := cut_h 23 35 i0 Try.underlying23 hi0 .u64 A n c ((base : Int) + 1 + (k : Int) - (base : Int) - 1) (base + k - base) (by omega) (by omega) (by omega)
              obtain ⟨A4, hA4, hcutB⟩ := cut_l 23 35 i0 3 Try.underlying23 hi0 hz1 .i64 (some ad) m1 d1 (k : Int) (m1 - k) (d1 - k) (by omega) (by omega) hsub.cap (by omega) (by omega)
              have hsA := ((hs.now (by decide)).below D2 (Nat.le_refl _)).sub (A' := A3) (k := 0) (m := base + k - base) (c' := c) (by omega) (by omega) hmax (by intro hp; rw [hA3 hp]; cases A <;> simp [Addr.add])
              rw [Nat.zero_mul, List.drop_zero, ← ecells_take] at hsA
              have hsB := ((hsub.now (by decide)).below D2 (Nat.le_refl _)).sub (A' := A4) (k := k) (m := m1 - k) (c' := d1 - k) (by omega) (by have := hsub.cap; omega) (by have := hsub.max; omega) (by intro hp; rw [hA4 hp]; rfl)
              rw [← ecells_drop, ← ecells_take, List.take_of_length_le (by have := hsub.len; rw [ecells_len] at this; simp; omega)] at hsB
              have ei : base + 1 + k - base - 1 = base + k - base := by omega
              rw [ei] at HS2
              generalize es.take (base + k - base) = E1 at hsA HS2
              generalize ys.drop k = E2 at hsB HS2
              obtain ⟨a3, ha3⟩ : ∃ a, base + k - base = a := ⟨_, rfl⟩
              obtain ⟨a4, ha4⟩ : ∃ a, m1 - k = a := ⟨_, rfl⟩
              obtain ⟨a5, ha5⟩ : ∃ a, d1 - k = a := ⟨_, rfl⟩
              rw [ha3] at hsA hcutA
              rw [ha4] at hsB hcutB
              rw [ha5] at hsB hcutB
              have ha3' : a3 ≤ 1000 := by omega
              have ha4' : a4 ≤ 1000 := by omega
              clear ha3 ha4 ha5 ei hA3 hA4 HDR xa0 xa1 xa2 c0 c1 c2 u0 u1 u2 x0 x1 x2 hT
              go_cut [14] (fun v w' => v = .int .u64 ((base : Int) + 1 + (k : Int)) ∧ ∃ A5 c5, Blk w' w.heap.size 25 #[.int .u64 (base : Int), .int .u64 (bt : Int), .slice A5 (a3 + a4) c5] ∧ Blk w' (w.heap.size + 1) 25 #[.int .u64 0, .int .u64 0, .slice none 0 0] ∧ (∃ lo hi, w.heap.size + 2 ≤ lo ∧ Sl w' lo hi 3 A5 (a3 + a4) c5 (ecells (E1 ++ E2))) ∧ Below w.heap.size w w')
              case first =>
                go_region_with (first
                  | (go_at_call 55; refine ((econcat2 w2.drew 23 w2.heap.size hsA.drew hsB.drew ha3' ha4').mono ?_); rintro e w3 ⟨A5, c5, rfl, hown3, hb3⟩; have hb3' : Below w2.heap.size w2 w3 := below_of_drew (below_boxed hb3); have B1t := B1s.after hb3'; obtain ⟨t0, t1, t2⟩ := B1t.c3; have zt := B1t.frozen 2))
                all_goals
                  go_wp2
                  go_meet
                  obtain ⟨_, _, e5, hsl5⟩ := own_sl hown3
                  cases e5
                  have hsz3 := hb3'.size
                  refine ⟨rfl, A5, c5, B1t.set_ 2 _, (B2s.after hb3').far (by simp) _, ⟨w2.heap.size + 1, w3.heap.size, by omega, hsl5.setCell (.inl (by simp; omega)) _⟩, (D2.trans (hb3'.mono D2.size)).setCell (Nat.le_refl _) _⟩
              case rest =>
                obtain ⟨rfl, A5, c5, B1t, B2t, ⟨lo5, hi5, hlo5, hsl5⟩, D5⟩ := hcut
                clear hs hsub B1r B2r B1s B2s hsA hsB hcutA hcutB
                obtain ⟨t0, t1, t2⟩ := B1t.c3
                obtain ⟨y0, y1, y2⟩ := B2t.c3
                have z0 := B2t.frozen 0
                have z1 := B2t.frozen 1
                have z2 := B2t.frozen 2
                go_wp2_with fail
                have B4 := ((B2t.set_ 0 (.int .u64 (base : Int))).set_ 1 (.int .u64 (bt : Int))).set_ 2 (.slice A5 (a3 + a4) c5)
                have D3 := ((D5.setCell (p := ⟨w.heap.size + 1, 0, none⟩) (Nat.le_succ _) (.int .u64 (base : Int))).setCell (p := ⟨w.heap.size + 1, 1, none⟩) (Nat.le_succ _) (.int .u64 (bt : Int))).setCell (p := ⟨w.heap.size + 1, 2, none⟩) (Nat.le_succ _) (.slice A5 (a3 + a4) c5)
                obtain ⟨r0, r1, r2⟩ := B4.c3
                refine bodyPost_ret (v := .tuple #[.agg #[.int .u64 (base : Int), .int .u64 (bt : Int), .slice A5 (a3 + a4) c5], .int .u64 ((base : Int) + 1 + (k : Int)), .int .i64 0]) (by simp [results, Try.results28, go_sem, r0, r1, r2]) rfl ?_
                have hs5 := ((hsl5.setCell (p := ⟨w.heap.size + 1, 0, none⟩) (.inl (by simp; omega)) (.int .u64 (base : Int))).setCell (p := ⟨w.heap.size + 1, 1, none⟩) (.inl (by simp; omega)) (.int .u64 (bt : Int))).setCell (p := ⟨w.heap.size + 1, 2, none⟩) (.inl (by simp; omega)) (.slice A5 (a3 + a4) c5)
                refine ⟨A5, a3 + a4, c5, E1 ++ E2, base + 1 + k, 0, by rw [hi2]; rfl, by rw [HAF'.out, HS2.out], ⟨lo5, hi5, hs5⟩, D3⟩
          · have hd : decide (base ≤ base + 1 + k ∧ base + 1 + k ≤ base + n) = false := decide_eq_false (by omega)
            rw [hd] at hT
            have HS2 : Hid (scan base bt es (base + 1) ys = (es.take (base + 1 + k - base - 1) ++ ys.drop k, base + 1 + k)) := by
              show _ = _
              rw [HSC.out, HNO.out (fun h => hin h.1), HDR.out]
            go_wp2_with fail
            refine (hT _ (Dr.alloc Dr.size _)).mono ?_
            rintro e w2 ⟨rfl, hb2⟩
            have hb2' := below_boxed hb2
            obtain ⟨u0, u1, u2⟩ := ((Blk.new wr _ _).after hb2).c3
            go_wp2_with fail
            have B1s := B1r.after hb2'
            have B2s := B2r.after hb2'
            have D2 := Dr.trans (hb2'.mono Dr.size)
            have hg2 : w.heap.size + 2 ≤ w2.heap.size := Nat.le_trans hgr hb2'.size
            obtain ⟨v0, v1, v2⟩ := B1s.c3
            have hw1 : IntKind.u64.wrap ((base : Int) + 1 + (k : Int) - (base : Int)) = (base : Int) + 1 + (k : Int) - (base : Int) := by rw [IntKind.wrap_u64]; omega
            have hw2 : IntKind.u64.wrap ((base : Int) + 1 + (k : Int) - (base : Int) - 1) = (base : Int) + 1 + (k : Int) - (base : Int) - 1 := by rw [IntKind.wrap_u64]; omega
            obtain ⟨A3, hA3, hcutA⟩ := cut_h 23 35 i0 Try.underlying23 hi0 .u64 A n c ((base : Int) + 1 + (k : Int) - (base : Int) - 1) (base + k - base) (by omega) (by omega) (by omega)
            obtain ⟨A4, hA4, hcutB⟩ := cut_l 23 35 i0 3 Try.underlying23 hi0 hz1 .i64 (some ad) m1 d1 (k : Int) (m1 - k) (d1 - k) (by omega) (by omega) hsub.cap (by omega) (by omega)
            have hsA := ((hs.now (by decide)).below D2 (Nat.le_refl _)).sub (A' := A3) (k := 0) (m := base + k - base) (c' := c) (by omega) (by omega) hmax (by intro hp; rw [hA3 hp]; cases A <;> simp [Addr.add])
            rw [Nat.zero_mul, List.drop_zero, ← ecells_take] at hsA
            have hsB := ((hsub.now (by decide)).below D2 (Nat.le_refl _)).sub (A' := A4) (k := k) (m := m1 - k) (c' := d1 - k) (by omega) (by have := hsub.cap; omega) (by have := hsub.max; omega) (by intro hp; rw [hA4 hp]; rfl)
            rw [← ecells_drop, ← ecells_take, List.take_of_length_le (by have := hsub.len; rw [ecells_len] at this; simp; omega)] at hsB
            have ei : base + 1 + k - base - 1 = base + k - base := by omega
            rw [ei] at HS2
            generalize es.take (base + k - base) = E1 at hsA HS2
            generalize ys.drop k = E2 at hsB HS2
            obtain ⟨a3, ha3⟩ : ∃ a, base + k - base = a := ⟨_, rfl⟩
            obtain ⟨a4, ha4⟩ : ∃ a, m1 - k = a := ⟨_, rfl⟩
            obtain ⟨a5, ha5⟩ : ∃ a, d1 - k = a := ⟨_, rfl⟩
            rw [ha3] at hsA hcutA
            rw [ha4] at hsB hcutB
            rw [ha5] at hsB hcutB
            have ha3' : a3 ≤ 1000 := by omega
            have ha4' : a4 ≤ 1000 := by omega
            clear ha3 ha4 ha5 ei hA3 hA4 HDR xa0 xa1 xa2 c0 c1 c2 u0 u1 u2 x0 x1 x2 hT
            go_cut [14] (fun v w' => v = .int .u64 ((base : Int) + 1 + (k : Int)) ∧ ∃ A5 c5, Blk w' w.heap.size 25 #[.int .u64 (base : Int), .int .u64 (bt : Int), .slice A5 (a3 + a4) c5] ∧ Blk w' (w.heap.size + 1) 25 #[.int .u64 0, .int .u64 0, .slice none 0 0] ∧ (∃ lo hi, w.heap.size + 2 ≤ lo ∧ Sl w' lo hi 3 A5 (a3 + a4) c5 (ecells (E1 ++ E2))) ∧ Below w.heap.size w w')
            case first =>
              go_region_with (first
                | (go_at_call 55; refine ((econcat2 w2.drew 23 w2.heap.size hsA.drew hsB.drew ha3' ha4').mono ?_); rintro e w3 ⟨A5, c5, rfl, hown3, hb3⟩; have hb3' : Below w2.heap.size w2 w3 := below_of_drew (below_boxed hb3); have B1t := B1s.after hb3'; obtain ⟨t0, t1, t2⟩ := B1t.c3; have zt := B1t.frozen 2))
              all_goals
                go_wp2
                go_meet
                obtain ⟨_, _, e5, hsl5⟩ := own_sl hown3
                cases e5
                have hsz3 := hb3'.size
                refine ⟨rfl, A5, c5, B1t.set_ 2 _, (B2s.after hb3').far (by simp) _, ⟨w2.heap.size + 1, w3.heap.size, by omega, hsl5.setCell (.inl (by simp; omega)) _⟩, (D2.trans (hb3'.mono D2.size)).setCell (Nat.le_refl _) _⟩
            case rest =>
              obtain ⟨rfl, A5, c5, B1t, B2t, ⟨lo5, hi5, hlo5, hsl5⟩, D5⟩ := hcut
              clear hs hsub B1r B2r B1s B2s hsA hsB hcutA hcutB
              obtain ⟨t0, t1, t2⟩ := B1t.c3
              obtain ⟨y0, y1, y2⟩ := B2t.c3
              have z0 := B2t.frozen 0
              have z1 := B2t.frozen 1
              have z2 := B2t.frozen 2
              go_wp2_with fail
              have B4 := ((B2t.set_ 0 (.int .u64 (base : Int))).set_ 1 (.int .u64 (bt : Int))).set_ 2 (.slice A5 (a3 + a4) c5)
              have D3 := ((D5.setCell (p := ⟨w.heap.size + 1, 0, none⟩) (Nat.le_succ _) (.int .u64 (base : Int))).setCell (p := ⟨w.heap.size + 1, 1, none⟩) (Nat.le_succ _) (.int .u64 (bt : Int))).setCell (p := ⟨w.heap.size + 1, 2, none⟩) (Nat.le_succ _) (.slice A5 (a3 + a4) c5)
              obtain ⟨r0, r1, r2⟩ := B4.c3
              refine bodyPost_ret (v := .tuple #[.agg #[.int .u64 (base : Int), .int .u64 (bt : Int), .slice A5 (a3 + a4) c5], .int .u64 ((base : Int) + 1 + (k : Int)), .int .i64 0]) (by simp [results, Try.results28, go_sem, r0, r1, r2]) rfl ?_
              have hs5 := ((hsl5.setCell (p := ⟨w.heap.size + 1, 0, none⟩) (.inl (by simp; omega)) (.int .u64 (base : Int))).setCell (p := ⟨w.heap.size + 1, 1, none⟩) (.inl (by simp; omega)) (.int .u64 (bt : Int))).setCell (p := ⟨w.heap.size + 1, 2, none⟩) (.inl (by simp; omega)) (.slice A5 (a3 + a4) c5)
              refine ⟨A5, a3 + a4, c5, E1 ++ E2, base + 1 + k, 0, by rw [hi2]; rfl, by rw [HAF'.out, HS2.out], ⟨lo5, hi5, hs5⟩, D3⟩
        · obtain rfl : k = m1 := by omega
          have HS2 : Hid (scan base bt es (base + 1) ys = (es, 0)) := by
            show _ = _
            have hyl : ys.length = k := by have := hsub.len; rw [ecells_len] at this; omega
            rw [hsc, List.drop_of_length_le (by omega)]
            rfl
          clear hsc
          obtain ⟨y0, y1, y2⟩ := B2r.c3
          have z0 := B2r.frozen 0
          have z1 := B2r.frozen 1
          have z2 := B2r.frozen 2
          go_wp2_with fail
          have B4 := ((B2r.set_ 0 (.int .u64 (base : Int))).set_ 1 (.int .u64 (bt : Int))).set_ 2 (.slice A n c)
          have D3 := ((Dr.setCell (p := ⟨w.heap.size + 1, 0, none⟩) (Nat.le_succ _) (.int .u64 (base : Int))).setCell (p := ⟨w.heap.size + 1, 1, none⟩) (Nat.le_succ _) (.int .u64 (bt : Int))).setCell (p := ⟨w.heap.size + 1, 2, none⟩) (Nat.le_succ _) (.slice A n c)
          obtain ⟨r0, r1, r2⟩ := B4.c3
          refine bodyPost_ret (v := .tuple #[.agg #[.int .u64 (base : Int), .int .u64 (bt : Int), .slice A n c], .int .u64 0, .int .i64 0]) (by simp [results, Try.results28, go_sem, r0, r1, r2]) rfl ?_
          exact ⟨A, n, c, es, 0, 0, rfl, by rw [HAF'.out, HS2.out], ⟨lo, w.heap.size, (hs.now (by decide)).below D3 (Nat.le_refl _)⟩, D3⟩
    · have HAF' : Hid (appendF base bt es prev pt xs = ((scan base bt es (prev + 1) xs).1, (scan base bt es (prev + 1) xs).2, 0)) := by
        show _ = _
        rw [HAF.out, if_neg (by simp), if_neg h1]
      have hbp : base ≤ prev := by omega
      clear HAF hlx
      go_enter Try.func28, Try.ntmps28
      go_wp2_with fail
      refine hF.mono ?_
      rintro e w1 ⟨rfl, hb1⟩
      obtain ⟨x0, x1, x2⟩ := (((Blk.new w _ _).alloc _).after hb1).c3
      have B1 := ((Blk.new w _ _).alloc _).after hb1
      have B2 := (Blk.new _ _ _).after hb1
      simp only [alloc_size] at B2
      have D1 := below_boxed (below_boxed hb1)
      have hg := hb1.size
      simp only [alloc_size] at hg
      clear hF hb1
      go_wp2_with fail
      go_loopw [41] (fun i wr => ∃ k : Nat, k ≤ m ∧ prev + k ≤ base + n ∧ i = .int .i64 k ∧ scan base bt es (prev + 1) xs = scan base bt es (prev + 1 + k) (xs.drop k) ∧ Blk wr w.heap.size 25 #[.int .u64 (base : Int), .int .u64 (bt : Int), .slice A n c] ∧ Blk wr (w.heap.size + 1) 25 #[.int .u64 0, .int .u64 0, .slice none 0 0] ∧ w.heap.size + 2 ≤ wr.heap.size ∧ Below w.heap.size w wr) (fun i _ => m - (intOf i).toNat)
      case atStart => exact ⟨0, Nat.zero_le _, by omega, rfl, rfl, B1, B2, hg, D1⟩
      case round =>
        obtain ⟨k, hk, hpk, rfl, hsc, B1r, B2r, hgr, Dr⟩ := hrel
        clear B1 B2 x0 x1 x2 D1 hg
        obtain ⟨x0, x1, x2⟩ := B1r.c3
        by_cases hlt : k < m
        · obtain ⟨ad, x, rfl, hxk, c0, c1, c2⟩ := ((hx.now (by decide)).below Dr (Nat.le_refl _)).ent hlt
          have hdrop : xs.drop k = x :: xs.drop (k + 1) := by
            obtain ⟨q1, q2⟩ := List.getElem?_eq_some_iff.1 hxk
            rw [List.drop_eq_getElem_cons q1, q2]
          have hi2 : ((prev + 1 + k : Nat) : Int) = (prev : Int) + 1 + (k : Int) := by omega
          have hT := HT.out (prev + 1 + k) (by omega)
          rw [hi2] at hT
          rw [hdrop] at hsc
          have hyes := @scan_yes base bt es (prev + 1 + k) x (xs.drop (k + 1))
          have hno := @scan_no base bt es (prev + 1 + k) x (xs.drop (k + 1))
          rw [hl] at hyes hno
          generalize termAt base bt es (prev + 1 + k) = T at hT hyes hno
          have HSC := Lib.hid hsc
          have HYES := Lib.hid hyes
          have HNO := Lib.hid hno
          have HDR := Lib.hid hdrop
          obtain ⟨xa0, xa1, xa2⟩ := (B1r.alloc (.cells #[.int .u64 (x.t : Int), .int .i64 x.k, .slice x.A x.l.length x.c] 35)).c3
          clear hsc hyes hno hdrop hxk
          by_cases hin : prev + 1 + k ≤ base + n
          · have hd : decide (base ≤ prev + 1 + k ∧ prev + 1 + k ≤ base + n) = true := decide_eq_true ⟨by omega, hin⟩
            rw [hd] at hT
            by_cases htx : T = x.t
            · have heq : ((T : Int) == (x.t : Int)) = true := by simp; omega
              have HTX := Lib.hid htx
              clear htx
              go_wp2_with fail
              refine (hT _ (Dr.alloc Dr.size _)).mono ?_
              rintro e w2 ⟨rfl, hb2⟩
              have hb2' := below_boxed hb2
              obtain ⟨u0, u1, u2⟩ := ((Blk.new wr _ _).after hb2).c3
              go_wp2_with fail
              go_roundw
              case rel => exact ⟨k + 1, by omega, by omega, by go_num, by rw [HSC.out, HYES.out hin HTX.out, Nat.add_assoc (prev + 1) k 1], B1r.after hb2', B2r.after hb2', Nat.le_trans hgr hb2'.size, Dr.trans (hb2'.mono Dr.size)⟩
              case measure => simp [intOf]; omega
            · have heq : ((T : Int) == (x.t : Int)) = false := by simp; omega
              have HS2 : Hid (scan base bt es (prev + 1) xs = (es.take (prev + 1 + k - base - 1) ++ xs.drop k, prev + 1 + k)) := by
                show _ = _
                rw [HSC.out, HNO.out (fun h => htx h.2), HDR.out]
              clear htx
              go_wp2_with fail
              refine (hT _ (Dr.alloc Dr.size _)).mono ?_
              rintro e w2 ⟨rfl, hb2⟩
              have hb2' := below_boxed hb2
              obtain ⟨u0, u1, u2⟩ := ((Blk.new wr _ _).after hb2).c3
              go_wp2_with fail
              have B1s := B1r.after hb2'
              have B2s := B2r.after hb2'
              have D2 := Dr.trans (hb2'.mono Dr.size)
              have hg2 : w.heap.size + 2 ≤ w2.heap.size := Nat.le_trans hgr hb2'.size
              obtain ⟨v0, v1, v2⟩ := B1s.c3
              have hw1 : IntKind.u64.wrap ((prev : Int) + 1 + (k : Int) - (base : Int)) = (prev : Int) + 1 + (k : Int) - (base : Int) := by rw [IntKind.wrap_u64]; omega
              have hw2 : IntKind.u64.wrap ((prev : Int) + 1 + (k : Int) - (base : Int) - 1) = (prev : Int) + 1 + (k : Int) - (base : Int) - 1 := by rw [IntKind.wrap_u64]; omega
              obtain ⟨A3, hA3, hcutA⟩ := cut_h 23 35 i0 Try.underlying23 hi0 .u64 A n c ((prev : Int) + 1 + (k : Int) - (base : Int) - 1) (prev + k - base) (by omega) (by omega) (by omega)
              obtain ⟨A4, hA4, hcutB⟩ := cut_l 23 35 i0 3 Try.underlying23 hi0 hz1 .i64 (some ad) m d (k : Int) (m - k) (d - k) (by omega) (by omega) hx.cap (by omega) (by omega)
              have hsA := ((hs.now (by decide)).below D2 (Nat.le_refl _)).sub (A' := A3) (k := 0) (m := prev + k - base) (c' := c) (by omega) (by omega) hmax (by intro hp; rw [hA3 hp]; cases A <;> simp [Addr.add])
              rw [Nat.zero_mul, List.drop_zero, ← ecells_take] at hsA
              have hsB := ((hx.now (by decide)).below D2 (Nat.le_refl _)).sub (A' := A4) (k := k) (m := m - k) (c' := d - k) (by omega) (by have := hx.cap; omega) (by have := hx.max; omega) (by intro hp; rw [hA4 hp]; rfl)
              rw [← ecells_drop, ← ecells_take, List.take_of_length_le (by have := hx.len; rw [ecells_len] at this; simp; omega)] at hsB
              have ei : prev + 1 + k - base - 1 = prev + k - base := by omega
              rw [ei] at HS2
              generalize es.take (prev + k - base) = E1 at hsA HS2
              generalize xs.drop k = E2 at hsB HS2
              obtain ⟨a3, ha3⟩ : ∃ a, prev + k - base = a := ⟨_, rfl⟩
              obtain ⟨a4, ha4⟩ : ∃ a, m - k = a := ⟨_, rfl⟩
              obtain ⟨a5, ha5⟩ : ∃ a, d - k = a := ⟨_, rfl⟩
              rw [ha3] at hsA hcutA
              rw [ha4] at hsB hcutB
              rw [ha5] at hsB hcutB
              have ha3' : a3 ≤ 1000 := by omega
              have ha4' : a4 ≤ 1000 := by omega
              clear ha3 ha4 ha5 ei hA3 hA4 HDR xa0 xa1 xa2 c0 c1 c2 u0 u1 u2 x0 x1 x2 hT
              go_cut [14] (fun v w' => v = .int .u64 ((prev : Int) + 1 + (k : Int)) ∧ ∃ A5 c5, Blk w' w.heap.size 25 #[.int .u64 (base : Int), .int .u64 (bt : Int), .slice A5 (a3 + a4) c5] ∧ Blk w' (w.heap.size + 1) 25 #[.int .u64 0, .int .u64 0, .slice none 0 0] ∧ (∃ lo hi, w.heap.size + 2 ≤ lo ∧ Sl w' lo hi 3 A5 (a3 + a4) c5 (ecells (E1 ++ E2))) ∧ Below w.heap.size w w')
              case first =>
                go_region_with (first
                  | (go_at_call 55; refine ((econcat2 w2.drew 23 w2.heap.size hsA.drew hsB.drew ha3' ha4').mono ?_); rintro e w3 ⟨A5, c5, rfl, hown3, hb3⟩; have hb3' : Below w2.heap.size w2 w3 := below_of_drew (below_boxed hb3); have B1t := B1s.after hb3'; obtain ⟨t0, t1, t2⟩ := B1t.c3; have zt := B1t.frozen 2))
                all_goals
                  go_wp2
                  go_meet
                  obtain ⟨_, _, e5, hsl5⟩ := own_sl hown3
                  cases e5
                  have hsz3 := hb3'.size
                  refine ⟨rfl, A5, c5, B1t.set_ 2 _, (B2s.after hb3').far (by simp) _, ⟨w2.heap.size + 1, w3.heap.size, by omega, hsl5.setCell (.inl (by simp; omega)) _⟩, (D2.trans (hb3'.mono D2.size)).setCell (Nat.le_refl _) _⟩
              case rest =>
                obtain ⟨rfl, A5, c5, B1t, B2t, ⟨lo5, hi5, hlo5, hsl5⟩, D5⟩ := hcut
                clear hs hx B1r B2r B1s B2s hsA hsB hcutA hcutB
                obtain ⟨t0, t1, t2⟩ := B1t.c3
                obtain ⟨y0, y1, y2⟩ := B2t.c3
                have z0 := B2t.frozen 0
                have z1 := B2t.frozen 1
                have z2 := B2t.frozen 2
                go_wp2_with fail
                have B4 := ((B2t.set_ 0 (.int .u64 (base : Int))).set_ 1 (.int .u64 (bt : Int))).set_ 2 (.slice A5 (a3 + a4) c5)
                have D3 := ((D5.setCell (p := ⟨w.heap.size + 1, 0, none⟩) (Nat.le_succ _) (.int .u64 (base : Int))).setCell (p := ⟨w.heap.size + 1, 1, none⟩) (Nat.le_succ _) (.int .u64 (bt : Int))).setCell (p := ⟨w.heap.size + 1, 2, none⟩) (Nat.le_succ _) (.slice A5 (a3 + a4) c5)
                obtain ⟨r0, r1, r2⟩ := B4.c3
                refine bodyPost_ret (v := .tuple #[.agg #[.int .u64 (base : Int), .int .u64 (bt : Int), .slice A5 (a3 + a4) c5], .int .u64 ((prev : Int) + 1 + (k : Int)), .int .i64 0]) (by simp [results, Try.results28, go_sem, r0, r1, r2]) rfl ?_
                have hs5 := ((hsl5.setCell (p := ⟨w.heap.size + 1, 0, none⟩) (.inl (by simp; omega)) (.int .u64 (base : Int))).setCell (p := ⟨w.heap.size + 1, 1, none⟩) (.inl (by simp; omega)) (.int .u64 (bt : Int))).setCell (p := ⟨w.heap.size + 1, 2, none⟩) (.inl (by simp; omega)) (.slice A5 (a3 + a4) c5)
                refine ⟨A5, a3 + a4, c5, E1 ++ E2, prev + 1 + k, 0, by rw [hi2]; rfl, by rw [HAF'.out, HS2.out], ⟨lo5, hi5, hs5⟩, D3⟩
          · have hd : decide (base ≤ prev + 1 + k ∧ prev + 1 + k ≤ base + n) = false := decide_eq_false (by omega)
            rw [hd] at hT
            have HS2 : Hid (scan base bt es (prev + 1) xs = (es.take (prev + 1 + k - base - 1) ++ xs.drop k, prev + 1 + k)) := by
              show _ = _
              rw [HSC.out, HNO.out (fun h => hin h.1), HDR.out]
            go_wp2_with fail
            refine (hT _ (Dr.alloc Dr.size _)).mono ?_
            rintro e w2 ⟨rfl, hb2⟩
            have hb2' := below_boxed hb2
            obtain ⟨u0, u1, u2⟩ := ((Blk.new wr _ _).after hb2).c3
            go_wp2_with fail
            have B1s := B1r.after hb2'
            have B2s := B2r.after hb2'
            have D2 := Dr.trans (hb2'.mono Dr.size)
            have hg2 : w.heap.size + 2 ≤ w2.heap.size := Nat.le_trans hgr hb2'.size
            obtain ⟨v0, v1, v2⟩ := B1s.c3
            have hw1 : IntKind.u64.wrap ((prev : Int) + 1 + (k : Int) - (base : Int)) = (prev : Int) + 1 + (k : Int) - (base : Int) := by rw [IntKind.wrap_u64]; omega
            have hw2 : IntKind.u64.wrap ((prev : Int) + 1 + (k : Int) - (base : Int) - 1) = (prev : Int) + 1 + (k : Int) - (base : Int) - 1 := by rw [IntKind.wrap_u64]; omega
            obtain ⟨A3, hA3, hcutA⟩ := cut_h 23 35 i0 Try.underlying23 hi0 .u64 A n c ((prev : Int) + 1 + (k : Int) - (base : Int) - 1) (prev + k - base) (by omega) (by omega) (by omega)
            obtain ⟨A4, hA4, hcutB⟩ := cut_l 23 35 i0 3 Try.underlying23 hi0 hz1 .i64 (some ad) m d (k : Int) (m - k) (d - k) (by omega) (by omega) hx.cap (by omega) (by omega)
            have hsA := ((hs.now (by decide)).below D2 (Nat.le_refl _)).sub (A' := A3) (k := 0) (m := prev + k - base) (c' := c) (by omega) (by omega) hmax (by intro hp; rw [hA3 hp]; cases A <;> simp [Addr.add])
            rw [Nat.zero_mul, List.drop_zero, ← ecells_take] at hsA
            have hsB := ((hx.now (by decide)).below D2 (Nat.le_refl _)).sub (A' := A4) (k := k) (m := m - k) (c' := d - k) (by omega) (by have := hx.cap; omega) (by have := hx.max; omega) (by intro hp; rw [hA4 hp]; rfl)
            rw [← ecells_drop, ← ecells_take, List.take_of_length_le (by have := hx.len; rw [ecells_len] at this; simp; omega)] at hsB
            have ei : prev + 1 + k - base - 1 = prev + k - base := by omega
            rw [ei] at HS2
            generalize es.take (prev + k - base) = E1 at hsA HS2
            generalize xs.drop k = E2 at hsB HS2
            obtain ⟨a3, ha3⟩ : ∃ a, prev + k - base = a := ⟨_, rfl⟩
            obtain ⟨a4, ha4⟩ : ∃ a, m - k = a := ⟨_, rfl⟩
            obtain ⟨a5, ha5⟩ : ∃ a, d - k = a := ⟨_, rfl⟩
            rw [ha3] at hsA hcutA
            rw [ha4] at hsB hcutB
            rw [ha5] at hsB hcutB
            have ha3' : a3 ≤ 1000 := by omega
            have ha4' : a4 ≤ 1000 := by omega
            clear ha3 ha4 ha5 ei hA3 hA4 HDR xa0 xa1 xa2 c0 c1 c2 u0 u1 u2 x0 x1 x2 hT
            go_cut [14] (fun v w' => v = .int .u64 ((prev : Int) + 1 + (k : Int)) ∧ ∃ A5 c5, Blk w' w.heap.size 25 #[.int .u64 (base : Int), .int .u64 (bt : Int), .slice A5 (a3 + a4) c5] ∧ Blk w' (w.heap.size + 1) 25 #[.int .u64 0, .int .u64 0, .slice none 0 0] ∧ (∃ lo hi, w.heap.size + 2 ≤ lo ∧ Sl w' lo hi 3 A5 (a3 + a4) c5 (ecells (E1 ++ E2))) ∧ Below w.heap.size w w')
            case first =>
              go_region_with (first
                | (go_at_call 55; refine ((econcat2 w2.drew 23 w2.heap.size hsA.drew hsB.drew ha3' ha4').mono ?_); rintro e w3 ⟨A5, c5, rfl, hown3, hb3⟩; have hb3' : Below w2.heap.size w2 w3 := below_of_drew (below_boxed hb3); have B1t := B1s.after hb3'; obtain ⟨t0, t1, t2⟩ := B1t.c3; have zt := B1t.frozen 2))
              all_goals
                go_wp2
                go_meet
                obtain ⟨_, _, e5, hsl5⟩ := own_sl hown3
                cases e5
                have hsz3 := hb3'.size
                refine ⟨rfl, A5, c5, B1t.set_ 2 _, (B2s.after hb3').far (by simp) _, ⟨w2.heap.size + 1, w3.heap.size, by omega, hsl5.setCell (.inl (by simp; omega)) _⟩, (D2.trans (hb3'.mono D2.size)).setCell (Nat.le_refl _) _⟩
            case rest =>
              obtain ⟨rfl, A5, c5, B1t, B2t, ⟨lo5, hi5, hlo5, hsl5⟩, D5⟩ := hcut
              clear hs hx B1r B2r B1s B2s hsA hsB hcutA hcutB
              obtain ⟨t0, t1, t2⟩ := B1t.c3
              obtain ⟨y0, y1, y2⟩ := B2t.c3
              have z0 := B2t.frozen 0
              have z1 := B2t.frozen 1
              have z2 := B2t.frozen 2
              go_wp2_with fail
              have B4 := ((B2t.set_ 0 (.int .u64 (base : Int))).set_ 1 (.int .u64 (bt : Int))).set_ 2 (.slice A5 (a3 + a4) c5)
              have D3 := ((D5.setCell (p := ⟨w.heap.size + 1, 0, none⟩) (Nat.le_succ _) (.int .u64 (base : Int))).setCell (p := ⟨w.heap.size + 1, 1, none⟩) (Nat.le_succ _) (.int .u64 (bt : Int))).setCell (p := ⟨w.heap.size + 1, 2, none⟩) (Nat.le_succ _) (.slice A5 (a3 + a4) c5)
              obtain ⟨r0, r1, r2⟩ := B4.c3
              refine bodyPost_ret (v := .tuple #[.agg #[.int .u64 (base : Int), .int .u64 (bt : Int), .slice A5 (a3 + a4) c5], .int .u64 ((prev : Int) + 1 + (k : Int)), .int .i64 0]) (by simp [results, Try.results28, go_sem, r0, r1, r2]) rfl ?_
              have hs5 := ((hsl5.setCell (p := ⟨w.heap.size + 1, 0, none⟩) (.inl (by simp; omega)) (.int .u64 (base : Int))).setCell (p := ⟨w.heap.size + 1, 1, none⟩) (.inl (by simp; omega)) (.int .u64 (bt : Int))).setCell (p := ⟨w.heap.size + 1, 2, none⟩) (.inl (by simp; omega)) (.slice A5 (a3 + a4) c5)
              refine ⟨A5, a3 + a4, c5, E1 ++ E2, prev + 1 + k, 0, by rw [hi2]; rfl, by rw [HAF'.out, HS2.out], ⟨lo5, hi5, hs5⟩, D3⟩
        · obtain rfl : k = m := by omega
          have HS2 : Hid (scan base bt es (prev + 1) xs = (es, 0)) := by
            show _ = _
            have hyl : xs.length = k := by have := hx.len; rw [ecells_len] at this; omega
            rw [hsc, List.drop_of_length_le (by omega)]
            rfl
          clear hsc
          obtain ⟨y0, y1, y2⟩ := B2r.c3
          have z0 := B2r.frozen 0
          have z1 := B2r.frozen 1
          have z2 := B2r.frozen 2
          go_wp2_with fail
          have B4 := ((B2r.set_ 0 (.int .u64 (base : Int))).set_ 1 (.int .u64 (bt : Int))).set_ 2 (.slice A n c)
          have D3 := ((Dr.setCell (p := ⟨w.heap.size + 1, 0, none⟩) (Nat.le_succ _) (.int .u64 (base : Int))).setCell (p := ⟨w.heap.size + 1, 1, none⟩) (Nat.le_succ _) (.int .u64 (bt : Int))).setCell (p := ⟨w.heap.size + 1, 2, none⟩) (Nat.le_succ _) (.slice A n c)
          obtain ⟨r0, r1, r2⟩ := B4.c3
          refine bodyPost_ret (v := .tuple #[.agg #[.int .u64 (base : Int), .int .u64 (bt : Int), .slice A n c], .int .u64 0, .int .i64 0]) (by simp [results, Try.results28, go_sem, r0, r1, r2]) rfl ?_
          exact ⟨A, n, c, es, 0, 0, rfl, by rw [HAF'.out, HS2.out], ⟨lo, w.heap.size, (hs.now (by decide)).below D3 (Nat.le_refl _)⟩, D3⟩
  · have hne : ((code : Int) != 0) = true := by simp; omega
    clear hok
    go_enter Try.func28, Try.ntmps28
    go_wp2_with fail
    refine hF.mono ?_
    rintro e w1 ⟨rfl, hb1⟩
    obtain ⟨x0, x1, x2⟩ := (((Blk.new w _ _).alloc _).after hb1).c3
    have B2 := (Blk.new _ _ _).after hb1
    simp only [alloc_size] at B2
    have D1 := below_boxed (below_boxed hb1)
    obtain ⟨y0, y1, y2⟩ := B2.c3
    have z0 := B2.frozen 0
    have z1 := B2.frozen 1
    have z2 := B2.frozen 2
    go_wp2_with fail
    have B4 := ((B2.set_ 0 (.int .u64 (base : Int))).set_ 1 (.int .u64 (bt : Int))).set_ 2 (.slice A n c)
    have D3 := ((D1.setCell (p := ⟨w.heap.size + 1, 0, none⟩) (Nat.le_succ _) (.int .u64 (base : Int))).setCell (p := ⟨w.heap.size + 1, 1, none⟩) (Nat.le_succ _) (.int .u64 (bt : Int))).setCell (p := ⟨w.heap.size + 1, 2, none⟩) (Nat.le_succ _) (.slice A n c)
    obtain ⟨r0, r1, r2⟩ := B4.c3
    refine bodyPost_ret (v := .tuple #[.agg #[.int .u64 (base : Int), .int .u64 (bt : Int), .slice A n c], .int .u64 0, .int .i64 code]) (by simp [results, Try.results28, go_sem, r0, r1, r2]) rfl ?_
    exact ⟨A, n, c, es, 0, code, rfl, by rw [HAF.out, if_pos h0], ⟨lo, w.heap.size, (hs.now (by decide)).below D3 (Nat.le_refl _)⟩, D3⟩
end Go.Proofs.Ytbgdepaffgeinaa
