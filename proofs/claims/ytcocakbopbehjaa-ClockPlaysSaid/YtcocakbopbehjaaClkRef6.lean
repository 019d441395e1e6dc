/- The document's New, Drift. -/
import Derived.Test.YtcocakbopbehjaaClkRef5
namespace Go.Proofs.Ytcocakbopbehjaa
open Go.RowKit
structure DR (N : List Nat) (a k d : Nat) : Prop where
  all : ∀ (i u : Nat), i < a → N[i]? = some u → ∀ v ∈ N, u - v ≤ d
  cur : ∀ u, N[a]? = some u → ∀ (j v : Nat), j < k → N[j]? = some v → u - v ≤ d
  is : d = 0 ∨ ∃ u ∈ N, ∃ v ∈ N, d = u - v
theorem high_max : ∀ (l : List Nat) (a : Nat), ∀ x ∈ l, x ≤ highN a l
  | b :: l, a, x, hx => by
    rcases List.mem_cons.1 hx with rfl | hx
    · exact Nat.le_trans (Nat.le_max_right a x) (high_ge l (max a x))
    · exact high_max l (max a b) x hx
theorem low_min : ∀ (l : List Nat) (a : Nat), ∀ x ∈ l, lowN a l ≤ x
  | b :: l, a, x, hx => by
    rcases List.mem_cons.1 hx with rfl | hx
    · exact Nat.le_trans (low_le l (min a x)) (Nat.min_le_right _ _)
    · exact low_min l (min a b) x hx
theorem high_mem : ∀ (l : List Nat) (a : Nat), highN a l = a ∨ highN a l ∈ l
  | [], _ => .inl rfl
  | b :: l, a => by
    rcases high_mem l (max a b) with h | h
    · have h' : highN a (b :: l) = max a b := h
      rw [h']
      rcases Nat.le_total a b with h1 | h1
      · rw [Nat.max_eq_right h1]; exact .inr List.mem_cons_self
      · rw [Nat.max_eq_left h1]; exact .inl rfl
    · exact .inr (List.mem_cons_of_mem _ h)
theorem low_mem : ∀ (l : List Nat) (a : Nat), lowN a l = a ∨ lowN a l ∈ l
  | [], _ => .inl rfl
  | b :: l, a => by
    rcases low_mem l (min a b) with h | h
    · have h' : lowN a (b :: l) = min a b := h
      rw [h']
      rcases Nat.le_total a b with h1 | h1
      · rw [Nat.min_eq_left h1]; exact .inl rfl
      · rw [Nat.min_eq_right h1]; exact .inr List.mem_cons_self
    · exact .inr (List.mem_cons_of_mem _ h)
theorem DR.done {N : List Nat} {k d : Nat} (h : DR N N.length k d) : d = driftN N := by
  cases N with
  | nil =>
    rcases h.is with h1 | ⟨u, hu, _⟩
    · exact h1
    · cases hu
  | cons b r =>
    show d = highN b (b :: r) - lowN b (b :: r)
    have hh : highN b (b :: r) ∈ b :: r := by
      rcases high_mem (b :: r) b with h1 | h1
      · rw [h1]; exact List.mem_cons_self
      · exact h1
    have hl : lowN b (b :: r) ∈ b :: r := by
      rcases low_mem (b :: r) b with h1 | h1
      · rw [h1]; exact List.mem_cons_self
      · exact h1
    obtain ⟨i, hi⟩ := List.getElem?_of_mem hh
    have h1 := h.all i _ (List.getElem?_eq_some_iff.1 hi).1 hi _ hl
    rcases h.is with h2 | ⟨u, hu, v, hv, h2⟩
    · omega
    · have := high_max _ b u hu
      have := low_min _ b v hv
      omega
section
variable {w : World} {g : Nat} {vn vp vt : Value} {N : List Nat} {P : List Bool} {l : List RT}
set_option maxRecDepth 100000 in
set_option maxHeartbeats 6400000 in
theorem rdrift_any (h : RS w g vn vp vt N P l) {D : Nat} (hD : driftN N = D) :
    Calls Try.prog 24 #[.pointer (some ⟨g, 0, none⟩)] w fun e w' => e = .returned (.int .u64 (D : Int)) ∧ ∃ q, w' = w.drewN q := by
  obtain ⟨A, c, hv, hs⟩ := own_sl h.rn
  subst hv
  obtain ⟨x0, x1, x2⟩ := h.blk.c3
  have hsh := h.short
  have hcell : ∀ (k : Nat), k < N.length → ∃ ad y, A = some ad ∧ N[k]? = some y ∧ w.cell? (ad.add k) = some (.int .u64 (y : Int)) ∧ y < 18446744073709551616 := fun k hk => by
    obtain ⟨ad, u, e, hu, hc⟩ := hs.nth (k := k) hk
    rw [List.getElem?_map] at hu
    obtain ⟨y, hy, rfl⟩ := Option.map_eq_some_iff.1 hu
    exact ⟨ad, y, e, hy, hc, h.bN y (List.mem_of_getElem? hy)⟩
  have hcap := hs.cap
  have HCELL := Lib.hid hcell
  have HD := Lib.hid hD
  obtain ⟨n, hn⟩ : ∃ n, N.length = n := ⟨_, rfl⟩
  simp only [hn] at x0 hsh hcap HCELL
  have HN := Lib.hid hn
  clear h hs hcell hD hn
  go_enter Try.func24, Try.ntmps24
  go_wp2
  go_loopw [3, 4, 5] (fun dv iv _ wr => ∃ (a d q : Nat), a ≤ n ∧ iv = .int .i64 a ∧ dv = .int .u64 (d : Int) ∧ DR N a 0 d ∧ wr = w.drewN q) (fun _ iv _ _ => n - (intOf iv).toNat)
  case atStart => exact ⟨0, 0, 0, Nat.zero_le _, rfl, rfl, ⟨fun i u hi => absurd hi (Nat.not_lt_zero _), fun u hu j v hj => absurd hj (Nat.not_lt_zero _), .inl rfl⟩, rfl⟩
  case round =>
    obtain ⟨a, d, q, ha, rfl, rfl, hdr, rfl⟩ := hrel
    have HDR := Lib.hid hdr
    clear hdr
    by_cases hlt : a < n
    · obtain ⟨ad, y, rfl, hy, hcy, hyb⟩ := HCELL.out a hlt
      have HY := Lib.hid hy
      have HYB := Lib.hid hyb
      clear hy hyb
      go_wp2
      go_loopw [3, 5] (fun dv kv wr => ∃ (k d q : Nat), k ≤ n ∧ kv = .int .i64 k ∧ dv = .int .u64 (d : Int) ∧ DR N a k d ∧ wr = w.drewN q) (fun _ kv _ => n - (intOf kv).toNat)
      case atStart => exact ⟨0, d, q, Nat.zero_le _, rfl, rfl, HDR.out, rfl⟩
      case round =>
        clear HDR
        obtain ⟨k, d2, q2, hk, rfl, rfl, hdr, rfl⟩ := hrel
        have HDR := Lib.hid hdr
        clear hdr
        by_cases hltk : k < n
        · obtain ⟨ad2, z, e, hz, hcz, hzb⟩ := HCELL.out k hltk
          injection e with e
          subst e
          have HZ := Lib.hid hz
          have HZB := Lib.hid hzb
          clear hz hzb
          by_cases hgt : z < y
          · have g1 : decide ((z : Int) < (y : Int)) = true := decide_eq_true (by omega)
            obtain ⟨s, hs⟩ : ∃ s, y - z = s := ⟨_, rfl⟩
            have hyb := HYB.out
            have hw : IntKind.u64.wrap ((y : Int) - (z : Int)) = (s : Int) := by rw [IntKind.wrap_u64]; omega
            have HS := Lib.hid hs
            clear hs hyb
            go_wp2
            go_quiet (fail)
            go_wp2
            go_quiet (fail)
            go_wp2
            go_roundw
            case rel =>
              refine ⟨k + 1, max d2 s, _, by omega, by first | rfl | go_num, by congr 1; omega, ⟨fun i u hi hu v hv => Nat.le_trans (HDR.out.all i u hi hu v hv) (Nat.le_max_left _ _), fun u hu j v hj hv => ?_, ?_⟩, rfl⟩
              · by_cases hjk : j = k
                · subst hjk
                  rw [HY.out] at hu
                  rw [HZ.out] at hv
                  injection hu with hu
                  injection hv with hv
                  have := HS.out
                  omega
                · have := HDR.out.cur u hu j v (by omega) hv
                  omega
              · rcases Nat.le_total d2 s with h1 | h1
                · rw [Nat.max_eq_right h1]
                  exact .inr ⟨y, List.mem_of_getElem? HY.out, z, List.mem_of_getElem? HZ.out, HS.out.symm⟩
                · rw [Nat.max_eq_left h1]
                  exact HDR.out.is
            case measure => simp [intOf]; omega
          · have g1 : decide ((z : Int) < (y : Int)) = false := decide_eq_false (by omega)
            go_wp2
            go_quiet (fail)
            go_wp2
            go_roundw
            case rel =>
              refine ⟨k + 1, d2, _, by omega, by first | rfl | go_num, rfl, ⟨HDR.out.all, fun u hu j v hj hv => ?_, HDR.out.is⟩, rfl⟩
              by_cases hjk : j = k
              · subst hjk
                rw [HY.out] at hu
                rw [HZ.out] at hv
                injection hu with hu
                injection hv with hv
                omega
              · exact HDR.out.cur u hu j v (by omega) hv
            case measure => simp [intOf]; omega
        · obtain rfl : k = n := by omega
          go_wp2
          go_roundw
          case rel =>
            refine ⟨a + 1, d2, q2, by omega, by first | rfl | go_num, rfl, ⟨fun i u hi hu v hv => ?_, fun u hu j v hj => absurd hj (Nat.not_lt_zero _), HDR.out.is⟩, rfl⟩
            by_cases hia : i = a
            · subst hia
              obtain ⟨j, hj⟩ := List.getElem?_of_mem hv
              exact HDR.out.cur u hu j v (by rw [← HN.out]; exact (List.getElem?_eq_some_iff.1 hj).1) hj
            · exact HDR.out.all i u (by omega) hu v hv
          case measure => simp [intOf]; omega
    · obtain rfl : a = n := by omega
      have hdr := HDR.out
      rw [← HN.out] at hdr
      have hdd : d = D := by rw [hdr.done]; exact HD.out
      subst hdd
      go_wp2
      go_ret
      exact ⟨rfl, q, rfl⟩
end
theorem made_one (z : Value) (hz : z.cells = #[z]) (n : Nat) : (madeCells z.cells (n * 1)).toList = List.replicate n z := by
  rw [hz, Nat.mul_one]
  apply List.ext_getElem
  · simp [madeCells]
  · intro i h1 h2
    simp [madeCells, Nat.mod_one]
theorem own_of_blk {w : World} {b : Nat} {e : TypeId} {U : Array Value} {n : Nat} {xs : List Value} (h : Blk w b e U) (hl : U.toList = xs) (hn : xs.length = n) (hm : n ≤ maxLen) : w.ownsRow 0 e 1 (.slice (some ⟨b, 0, none⟩) n n) n xs := by
  have hs : U.size = n := by rw [← Array.length_toList, hl, hn]
  refine ⟨by rw [hn, Nat.mul_one], .inr ⟨b, n, U, rfl, Nat.zero_le _, h, Nat.le_refl _, hm, by rw [hs, Nat.mul_one], ?_⟩⟩
  rw [hl]
  exact List.take_of_length_le (by rw [hn, Nat.mul_one]; exact Nat.le_refl _)
theorem rs_new {w : World} {g bu bv n : Nat} {U V : Array Value} (hg : Blk w g 49 #[.slice (some ⟨bu, 0, none⟩) n n, .slice (some ⟨bv, 0, none⟩) n n, .slice none 0 0]) (hU : Blk w bu 22 U) (hV : Blk w bv 4 V) (hu : U.toList = List.replicate n (.int .u64 0)) (hv : V.toList = List.replicate n (.bool false)) (h16 : n ≤ 16) :
    RS w g (.slice (some ⟨bu, 0, none⟩) n n) (.slice (some ⟨bv, 0, none⟩) n n) (.slice none 0 0) (List.replicate n 0) (List.replicate n false) [] := by
  have hm : n ≤ maxLen := by simp only [maxLen]; omega
  refine ⟨hg, ?_, ?_, World.ownsRow_nil _ _ _ _, by simp, by simpa using h16, fun x hx => ?_, fun t ht => (by cases ht), Nat.zero_le _⟩
  · have := own_of_blk hU hu (by simp) hm
    rw [List.length_replicate, List.map_replicate]
    exact this
  · have := own_of_blk hV hv (by simp) hm
    rw [List.length_replicate, List.map_replicate]
    exact this
  · rw [List.eq_of_mem_replicate hx]; decide
theorem u64_info : (Try.prog.info? 22).map (fun i => (i.zero, i.size, i.bytes)) = some (some (.int .u64 0), 1, 8) := by kernel_rfl
theorem bool_info : (Try.prog.info? 4).map (fun i => (i.zero, i.size, i.bytes)) = some (some (.bool false), 1, 1) := by kernel_rfl
set_option maxRecDepth 100000 in
theorem rnew_bad (n : Int) (w : World) (hn : ¬ (1 ≤ n ∧ n ≤ 16)) : Calls Try.prog 17 #[.int .i64 n] w fun e w' => e = .returned (.tuple #[.pointer none, .int .i64 1]) ∧ w = w' := by
  by_cases h1 : n < 1
  · go_enter Try.func17, Try.ntmps17
    go_wp2
    go_ret2
    exact ⟨rfl, rfl⟩
  · have h2 : 16 < n := by omega
    go_enter Try.func17, Try.ntmps17
    go_wp2
    go_ret2
    exact ⟨rfl, rfl⟩
set_option maxRecDepth 100000 in
set_option maxHeartbeats 3200000 in
theorem rnew_ok (n : Nat) (w : World) (h1 : 1 ≤ n) (h16 : n ≤ 16) :
    Calls Try.prog 17 #[.int .i64 (n : Int)] w fun e w' => ∃ g vn vp vt, e = .returned (.tuple #[.pointer (some ⟨g, 0, none⟩), .int .i64 0]) ∧ RS w' g vn vp vt (List.replicate n 0) (List.replicate n false) [] ∧ (∀ k, ROwn g vn vp vt k → w.heap.size ≤ k) ∧ Below w.heap.size w w' := by
  have k1 : ¬ (n : Int) < 1 := by omega
  have k2 : ¬ (16 : Int) < (n : Int) := by omega
  obtain ⟨i0, hi0, hz0, hz1, hz2⟩ := info_parts u64_info
  obtain ⟨j0, hj0, hy0, hy1, hy2⟩ := info_parts bool_info
  obtain ⟨U, hUs, hU⟩ : ∃ U : Array Value, U.toList = List.replicate n (.int .u64 0) ∧ ∀ W : World, (Instr.makeSlice 23 (.int .i64 (n : Int)) (.int .i64 (n : Int))).run Try.prog W = .ok (.slice (some ⟨W.heap.size, 0, none⟩) n n) (W.alloc (.cells U 22)) := ⟨madeCells (Value.int .u64 0).cells (n * 1), made_one _ rfl n, fun W => by
    have := run_makeSlice (P := Try.prog) W 23 22 i0 _ Try.underlying23 hi0 hz0 .i64 .i64 (n : Int) (n : Int) (by omega) (Int.le_refl _) (by rw [hz1]; simp; omega) (by rw [hz2]; omega) (by omega)
    simpa [hz1] using this⟩
  obtain ⟨V, hVs, hV⟩ : ∃ U : Array Value, U.toList = List.replicate n (.bool false) ∧ ∀ W : World, (Instr.makeSlice 24 (.int .i64 (n : Int)) (.int .i64 (n : Int))).run Try.prog W = .ok (.slice (some ⟨W.heap.size, 0, none⟩) n n) (W.alloc (.cells U 4)) := ⟨madeCells (Value.bool false).cells (n * 1), made_one _ rfl n, fun W => by
    have := run_makeSlice (P := Try.prog) W 24 4 j0 _ Try.underlying24 hj0 hy0 .i64 .i64 (n : Int) (n : Int) (by omega) (Int.le_refl _) (by rw [hy1]; simp; omega) (by rw [hy2]; omega) (by omega)
    simpa [hy1] using this⟩
  have HUS := Lib.hid hUs
  have HVS := Lib.hid hVs
  clear hi0 hz0 hz1 hz2 hj0 hy0 hy1 hy2 hUs hVs
  go_enter Try.func17, Try.ntmps17
  go_wp2
  go_region
  · go_wp2
    go_ret2
    refine ⟨_, _, _, _, rfl, rs_new (bu := w.heap.size) (bv := w.heap.size + 1) (U := U) (V := V) ?_ ?_ ?_ HUS.out HVS.out h16, ?_, ?_⟩
    · have := Blk.new ((w.alloc (.cells U 22)).alloc (.cells V 4)) 49 #[.slice (some ⟨w.heap.size, 0, none⟩) n n, .slice (some ⟨w.heap.size + 1, 0, none⟩) n n, .slice none 0 0]
      rw [alloc_size, alloc_size] at this
      exact this.drew
    · exact (((Blk.new w 22 U).alloc _).alloc _).drew
    · have := (Blk.new (w.alloc (.cells U 22)) 4 V)
      rw [alloc_size] at this
      exact (this.alloc _).drew
    · rintro k (rfl | e | e | e)
      · omega
      · have e' : some w.heap.size = some k := e; injection e' with e'; omega
      · have e' : some (w.heap.size + 1) = some k := e; injection e' with e'; omega
      · cases e
    · exact below_drewN ((((Below.refl _ w).alloc (Nat.le_refl _) _).alloc (by simp) _).alloc (by simp; omega) _) 1
  · go_wp2
    go_ret2
    refine ⟨_, _, _, _, rfl, rs_new (bu := w.heap.size + 1) (bv := w.heap.size) (U := U) (V := V) ?_ ?_ ?_ HUS.out HVS.out h16, ?_, ?_⟩
    · have := Blk.new ((w.alloc (.cells V 4)).alloc (.cells U 22)) 49 #[.slice (some ⟨w.heap.size + 1, 0, none⟩) n n, .slice (some ⟨w.heap.size, 0, none⟩) n n, .slice none 0 0]
      rw [alloc_size, alloc_size] at this
      exact this.drew
    · have := (Blk.new (w.alloc (.cells V 4)) 22 U)
      rw [alloc_size] at this
      exact (this.alloc _).drew
    · exact (((Blk.new w 4 V).alloc _).alloc _).drew
    · rintro k (rfl | e | e | e)
      · omega
      · have e' : some (w.heap.size + 1) = some k := e; injection e' with e'; omega
      · have e' : some w.heap.size = some k := e; injection e' with e'; omega
      · cases e
    · exact below_drewN ((((Below.refl _ w).alloc (Nat.le_refl _) _).alloc (by simp) _).alloc (by simp; omega) _) 1
end Go.Proofs.Ytcocakbopbehjaa
