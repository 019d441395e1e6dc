/- quorum's count, Majority, Agrees; the log's Add; Follow. -/
import Derived.Test.YtbgdepaffgeinaaElDel
import Derived.Test.YtbgdepaffgeinaaEClone
import Derived.Deep.RegionLawGrows
namespace Go.Proofs.Ytbgdepaffgeinaa
open Go.RowKit
set_option maxRecDepth 100000 in
set_option maxHeartbeats 1600000 in
theorem count_any (A B : Option Addr) (n c m d lo hi lo' hi' : Nat) (xs ys : List Int) (w : World) (hs : Sl w lo hi 1 A n c (xs.map iv)) (ht : Sl w lo' hi' 1 B m d (ys.map iv)) (hn : n ≤ 1000) :
    Calls Try.prog 80 #[.slice A n c, .slice B m d] w fun e w' => e = .returned (.int .i64 ((xs.filter fun i => ys.contains i).length : Int)) ∧ w = w' := by
  have hlen := ilen hs
  have hmax := hs.max
  have hcap := hs.cap
  have HL := Lib.hid hlen
  have HC := Lib.hid (fun (i : Int) (r : Bool) (hr : ys.contains i = r) => contains_any B m d lo' hi' ys i w ht hr)
  clear hlen ht
  go_enter Try.func80, Try.ntmps80
  go_wp2
  go_loopw [5, 10] (fun s i wr => ∃ k q : Nat, k ≤ n ∧ i = .int .i64 k ∧ s = .int .i64 q ∧ q ≤ k ∧ ((xs.take k).filter fun i => ys.contains i).length = q ∧ w = wr) (fun _ i _ => n - (intOf i).toNat)
  case atStart => exact ⟨0, 0, Nat.zero_le _, rfl, rfl, Nat.le_refl _, rfl, rfl⟩
  case round =>
    obtain ⟨k, q, hk, rfl, rfl, hq, hF, rfl⟩ := hrel
    have HF := Lib.hid hF
    clear hF
    by_cases hlt : k < n
    · obtain ⟨ad, t, rfl, ht, x0⟩ := hs.int hlt
      have HT := Lib.hid ht
      clear ht
      have hstep : ∀ r, ys.contains t = r → ((xs.take (k + 1)).filter fun i => ys.contains i).length = if r then q + 1 else q := by
        intro r hr
        obtain ⟨h1, h2⟩ := List.getElem?_eq_some_iff.1 HT.out
        rw [List.take_succ_eq_append_getElem h1, h2, List.filter_append, List.length_append, HF.out]
        cases r <;> simp only [List.filter_cons, hr] <;> rfl
      have HS := Lib.hid hstep
      clear hstep
      cases hr : ys.contains t with
      | true =>
        have HR := Lib.hid hr
        clear hr
        go_wp2_with fail
        refine (HC.out t _ HR.out).mono ?_
        rintro e _ ⟨rfl, rfl⟩
        go_wp2
        go_roundw
        case rel => exact ⟨k + 1, q + 1, by omega, by first | rfl | go_num, by first | rfl | go_num, by omega, by rw [HS.out _ HR.out]; rfl, by first | rfl | trivial⟩
        case measure => simp [intOf]; omega
      | false =>
        have HR := Lib.hid hr
        clear hr
        go_wp2_with fail
        refine (HC.out t _ HR.out).mono ?_
        rintro e _ ⟨rfl, rfl⟩
        go_wp2
        go_roundw
        case rel => exact ⟨k + 1, q, by omega, by first | rfl | go_num, by first | rfl | go_num, by omega, by rw [HS.out _ HR.out]; rfl, by first | rfl | trivial⟩
        case measure => simp [intOf]; omega
    · obtain rfl : k = n := by omega
      go_wp2
      go_ret
      refine ⟨?_, by first | rfl | trivial⟩
      have := HF.out
      rw [List.take_of_length_le (by rw [HL.out]; exact Nat.le_refl _)] at this
      rw [this]
      rfl
set_option maxRecDepth 100000 in
theorem majority_any (A : Option Addr) (n c : Nat) (w : World) (hn : n ≤ 1000) :
    Calls Try.prog 81 #[.slice A n c] w fun e w' => e = .returned (.int .i64 ((n / 2 + 1 : Nat) : Int)) ∧ w = w' := by
  have hd : (n : Int).tdiv 2 = ((n / 2 : Nat) : Int) := by
    rw [Int.tdiv_eq_ediv_of_nonneg (by omega)]; omega
  have hw : IntKind.i64.wrap ((n / 2 : Nat) : Int) = ((n / 2 : Nat) : Int) := by rw [IntKind.wrap_i64]; omega
  have hw2 : IntKind.i64.wrap (((n / 2 : Nat) : Int) + 1) = ((n / 2 : Nat) : Int) + 1 := by rw [IntKind.wrap_i64]; omega
  have he : ((n / 2 + 1 : Nat) : Int) = ((n / 2 : Nat) : Int) + 1 := by omega
  rw [he]
  generalize n / 2 = m at hd hw hw2 ⊢
  go_enter Try.func81, Try.ntmps81
  go_wp2
  go_ret
  exact ⟨by first | rfl | simp [hd], by first | rfl | trivial⟩
set_option maxRecDepth 100000 in
theorem agrees_any (A B : Option Addr) (n c m d lo hi lo' hi' : Nat) (xs ys : List Int) (w : World) (hs : Sl w lo hi 1 A n c (xs.map iv)) (ht : Sl w lo' hi' 1 B m d (ys.map iv)) (hn : n ≤ 1000) {r : Bool} (hr : agrees xs ys = r) :
    Calls Try.prog 62 #[.slice A n c, .slice B m d] w fun e w' => e = .returned (.bool r) ∧ w = w' := by
  have hlen := ilen hs
  have hC := count_any A B n c m d lo hi lo' hi' xs ys w hs ht hn
  have hM := majority_any A n c w hn
  unfold agrees at hr
  rw [hlen] at hr
  generalize (xs.filter fun i => ys.contains i).length = q at hr hC
  generalize n / 2 + 1 = k at hr hM
  have hdec : decide ((k : Int) ≤ (q : Int)) = r := by rw [← hr]; exact decide_eq_decide.2 (by omega)
  have HD := Lib.hid hdec
  clear hs ht hr hdec hlen
  go_enter Try.func62, Try.ntmps62
  go_wp2_with fail
  refine hC.mono ?_
  rintro e _ ⟨rfl, rfl⟩
  go_wp2_with fail
  refine hM.mono ?_
  rintro e _ ⟨rfl, rfl⟩
  go_wp2
  go_ret
  exact ⟨by rw [← HD.out]; first | rfl | simp, by first | rfl | trivial⟩
set_option maxRecDepth 100000 in
theorem clip_any (A : Option Addr) (n c : Nat) (w : World) (hc : n ≤ c) :
    Calls Try.prog 86 #[.slice A n c] w fun e w' => e = .returned (.slice A n n) ∧ w = w' := by
  go_enter Try.func86, Try.ntmps86
  go_wp2
  go_ret
  exact ⟨rfl, rfl⟩
theorem ent_one (x : Ent) : ∀ u ∈ [Value.int .u64 (x.t : Int), .int .i64 x.k, .slice x.A x.l.length x.c], u.oneCell' = true := by
  intro u hu
  simp only [List.mem_cons, List.not_mem_nil, or_false] at hu
  rcases hu with rfl | rfl | rfl <;> rfl
/-- a row of one's own that is not empty -/
theorem own_at {w : World} {base size n : Nat} {e : TypeId} {v : Value} {xs : List Value} (h : w.ownsRow base e size v n xs) (hn : 0 < n) : ∃ g c, v = .slice (some ⟨g, 0, none⟩) n c ∧ base ≤ g ∧ g < w.heap.size ∧ Sl w g (g + 1) size (some ⟨g, 0, none⟩) n c xs := by
  rcases h.2 with ⟨_, h0⟩ | ⟨g, cap, cur, rfl, hb, hg, hnc, hm, hs, ht⟩
  · omega
  · exact ⟨g, cap, rfl, hb, (h.lt g rfl).2, h.1, hnc, hm, fun _ => ⟨_, rfl, Nat.le_refl _, Nat.lt_succ_self _, h.cells (g := g) rfl⟩⟩
theorem sl_newer {w : World} {a : World} (g : Nat) (cs : List Value) (t : TypeId) (hg : a.heap.size = g) (hw : w = a.alloc (.cells cs.toArray t)) (j : Nat) (u : Value) (hu : cs[j]? = some u) : w.cell? ((⟨g, 0, none⟩ : Addr).add j) = some u := by
  subst hg hw
  rw [addr0, (Blk.new a t cs.toArray).cell j]
  simpa using hu
set_option maxRecDepth 100000 in
set_option maxHeartbeats 1600000 in
theorem add_any (base bt n c lo hi : Nat) (A : Option Addr) (es : List Ent) (x : Ent) (w : World) (hs : Sl w lo hi 3 A n c (ecells es)) (hn : n ≤ 10000) :
    Calls Try.prog 85 #[.agg #[.int .u64 (base : Int), .int .u64 (bt : Int), .slice A n c], .agg #[.int .u64 (x.t : Int), .int .i64 x.k, .slice x.A x.l.length x.c]] w fun e w' =>
      ∃ A' c' g, e = .returned (.agg #[.int .u64 (base : Int), .int .u64 (bt : Int), .slice A' (n + 1) c']) ∧ Sl w' g (g + 1) 3 A' (n + 1) c' (ecells (es ++ [x])) ∧ w.heap.size ≤ g ∧ g < w'.heap.size ∧ Below w.heap.size w w' := by
  obtain ⟨i0, hi0, hz0, hz1, hz2⟩ := info_parts en_info
  have hcap := hs.cap
  have hlx := hs.len
  have hnone : A = none → n = 0 ∧ n = 0 := fun h => by subst h; exact ⟨hs.nilA.1, hs.nilA.1⟩
  have HS : Hid (∀ W, Below w.heap.size w W → ∀ b, A = some b → ∀ j u, (ecells es)[j]? = some u → W.cell? (b.add j) = some u) := fun W hW b hb j u hu => by
    have h := hs.after (by decide) hW
    rcases Nat.eq_zero_or_pos n with h0 | h0
    · have hx : (ecells es) = [] := List.eq_nil_of_length_eq_zero (by rw [h.len, h0])
      rw [hx] at hu
      simp at hu
    · obtain ⟨ad, e, _, _, hc⟩ := h.at_ h0
      rw [hb] at e
      injection e with e
      subst e
      exact hc j u hu
  have hC := fun W => clip_any A n c W hcap
  have HLX := Lib.hid hlx
  have HNO := Lib.hid hnone
  clear hs hlx hnone hcap
  have h3 := ecells_append es [x]
  simp only [ecells] at h3
  have H3 := Lib.hid h3
  clear h3
  obtain ⟨xt, xk, xA, xc, xl⟩ := x
  simp only at H3 ⊢
  have h1 := ent_one ⟨xt, xk, xA, xc, xl⟩
  simp only at h1
  generalize xl.length = ll at h1 H3 ⊢
  have H1 := Lib.hid h1
  clear h1
  go_enter Try.func85, Try.ntmps85
  go_wp2
  have hB := (((Below.refl w.heap.size w).alloc (Nat.le_refl _) (.cells #[.int .u64 (base : Int), .int .u64 (bt : Int), .slice A n c] 25)).alloc (by simp) (.cells #[.int .u64 (xt : Int), .int .i64 xk, .slice xA ll xc] 35)).alloc (by simp only [alloc_size]; omega) (.cells #[.int .u64 0, .int .u64 0, .slice none 0 0] 25)
  have B2 := ((Blk.new w 25 #[.int .u64 (base : Int), .int .u64 (bt : Int), .slice A n c]).alloc (.cells #[.int .u64 (xt : Int), .int .i64 xk, .slice xA ll xc] 35)).alloc (.cells #[.int .u64 0, .int .u64 0, .slice none 0 0] 25)
  have B3 := (Blk.new (w.alloc (.cells #[.int .u64 (base : Int), .int .u64 (bt : Int), .slice A n c] 25)) 35 #[.int .u64 (xt : Int), .int .i64 xk, .slice xA ll xc]).alloc (.cells #[.int .u64 0, .int .u64 0, .slice none 0 0] 25)
  have B4 := Blk.new ((w.alloc (.cells #[.int .u64 (base : Int), .int .u64 (bt : Int), .slice A n c] 25)).alloc (.cells #[.int .u64 (xt : Int), .int .i64 xk, .slice xA ll xc] 35)) 25 #[.int .u64 0, .int .u64 0, .slice none 0 0]
  simp only [alloc_size] at B3 B4
  generalize hwb : ((w.alloc (Obj.cells #[.int .u64 (base : Int), .int .u64 (bt : Int), .slice A n c] 25)).alloc (Obj.cells #[.int .u64 (xt : Int), .int .i64 xk, .slice xA ll xc] 35)).alloc (Obj.cells #[.int .u64 0, .int .u64 0, .slice none 0 0] 25) = wb at hB B2 B3 B4 ⊢
  have hsz : wb.heap.size = w.heap.size + 1 + 1 + 1 := by rw [← hwb]; simp
  clear hwb
  obtain ⟨x0, x1, x2⟩ := B2.c3
  obtain ⟨y0, y1, y2⟩ := B3.c3
  have HB2 := Lib.hid B2
  have HB4 := Lib.hid B4
  have HB := Lib.hid hB
  have HSZ := Lib.hid hsz
  clear B2 B3 B4 hB hsz
  obtain ⟨-, -, xa2⟩ := (HB2.out.alloc (.cells #[.int .u64 (xt : Int), .int .i64 xk, .slice xA ll xc] 35)).c3
  go_region_law (first
    | (refine step_append_grows rfl (.tmp 7) (.tmp 9) 23 rfl 35 i0 _ 3 40 Try.underlying23 hi0 hz0 hz1 hz2 rfl (by omega) A n n (ecells es) (by simp [Act.eval, Act.put]) HNO.out HLX.out (by first | exact HS.out _ ((HB.out.drew).alloc HB.out.size _) | exact HS.out _ (HB.out.alloc HB.out.size _) | exact HS.out _ ((HB.out.alloc HB.out.size _).drew)) ⟨wb.heap.size, 0, none⟩ 1 1 [.int .u64 (xt : Int), .int .i64 xk, .slice xA ll xc] (by simp [Act.eval, Act.put]) rfl (by first | exact sl_newer _ _ _ rfl rfl | exact fun j u hu => sl_newer (a := wb) (w := wb.alloc (.cells #[.int .u64 (xt : Int), .int .i64 xk, .slice xA ll xc] 35)) wb.heap.size [.int .u64 (xt : Int), .int .i64 xk, .slice xA ll xc] 35 rfl rfl j u hu) H1.out (by omega) (by simp only [maxLen]; omega) (by omega) ?_; intro v' w' hown hgr; have hL2 := Blk.grown (by first | exact (HB2.out.drew).alloc _ | exact HB2.out.alloc _ | exact (HB2.out.alloc _).drew) hgr (fun h => by cases h); have hL4 := Blk.grown (by first | exact (HB4.out.drew).alloc _ | exact HB4.out.alloc _ | exact (HB4.out.alloc _).drew) hgr (fun h => by cases h); have D2 : Below w.heap.size w w' := Below.grown (by first | exact (HB.out.drew).alloc HB.out.size _ | exact HB.out.alloc HB.out.size _ | exact (HB.out.alloc HB.out.size _).drew) hgr (by first | (simp only [alloc_size, drew_size]; have := HB.out.size; omega) | (have := HB.out.size; simp; omega)) (fun k h => by cases h); obtain ⟨ga, c', hv', hga, hga2, hsl⟩ := own_at hown (by omega); subst hv'; have hga' : w.heap.size + 3 ≤ ga := (by have := HSZ.out; first | (simp only [alloc_size, drew_size] at hga; omega) | (simp at hga; omega)); have HL4 := Lib.hid hL4; have HL2 := Lib.hid hL2; have HD2 := Lib.hid D2; have HSL := Lib.hid hsl; obtain ⟨r0, r1, r2⟩ := hL2.c3; obtain ⟨s0, s1, s2⟩ := hL4.c3; have f2 := hL2.frozen 2; have g0 := hL4.frozen 0; have g1 := hL4.frozen 1; have g2 := hL4.frozen 2; clear hL4 D2 hgr hown hL2 hsl)
    | (go_simp; go_at_call 86; refine (hC _).mono ?_; rintro e _ ⟨rfl, rfl⟩))
  all_goals
    go_wp2
    have hne : w.heap.size + 1 + 1 ≠ w.heap.size := by omega
    have B4 := (((HL4.out.far (p := ⟨w.heap.size, 2, none⟩) hne (.slice (some ⟨ga, 0, none⟩) (n + 1) c')).set_ 0 (.int .u64 (base : Int))).set_ 1 (.int .u64 (bt : Int))).set_ 2 (.slice (some ⟨ga, 0, none⟩) (n + 1) c')
    have D4 := (((HD2.out.setCell (p := ⟨w.heap.size, 2, none⟩) (Nat.le_refl _) (.slice (some ⟨ga, 0, none⟩) (n + 1) c')).setCell (p := ⟨w.heap.size + 1 + 1, 0, none⟩) (by show w.heap.size ≤ w.heap.size + 1 + 1; omega) (.int .u64 (base : Int))).setCell (p := ⟨w.heap.size + 1 + 1, 1, none⟩) (by show w.heap.size ≤ w.heap.size + 1 + 1; omega) (.int .u64 (bt : Int))).setCell (p := ⟨w.heap.size + 1 + 1, 2, none⟩) (by show w.heap.size ≤ w.heap.size + 1 + 1; omega) (.slice (some ⟨ga, 0, none⟩) (n + 1) c')
    have S4 := (((HSL.out.setCell (p := ⟨w.heap.size, 2, none⟩) (by first | (left; show w.heap.size < ga; omega)) (.slice (some ⟨ga, 0, none⟩) (n + 1) c')).setCell (p := ⟨w.heap.size + 1 + 1, 0, none⟩) (by left; show w.heap.size + 1 + 1 < ga; omega) (.int .u64 (base : Int))).setCell (p := ⟨w.heap.size + 1 + 1, 1, none⟩) (by left; show w.heap.size + 1 + 1 < ga; omega) (.int .u64 (bt : Int))).setCell (p := ⟨w.heap.size + 1 + 1, 2, none⟩) (by left; show w.heap.size + 1 + 1 < ga; omega) (.slice (some ⟨ga, 0, none⟩) (n + 1) c')
    obtain ⟨r0, r1, r2⟩ := B4.c3
    refine bodyPost_ret (v := .agg #[.int .u64 (base : Int), .int .u64 (bt : Int), .slice (some ⟨ga, 0, none⟩) (n + 1) c']) (by simp [results, Try.results85, go_sem, r0, r1, r2]) rfl ?_
    rw [H3.out]
    exact ⟨_, _, ga, rfl, S4, by omega, by simpa using hga2, D4⟩
end Go.Proofs.Ytbgdepaffgeinaa
