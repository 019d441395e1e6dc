/- The document's reader: End; the document's Check. -/
import Derived.Test.YtciolppoanfiaaaDoorXRefRd2
import Derived.Test.YtciolppoanfiaaaDoorPWire2
namespace Go.Proofs.YtciolppoanfiaaaDoor
open Go.RowKit
set_option maxRecDepth 100000 in
set_option maxHeartbeats 800000 in
theorem qend_any (g hi n c : Nat) (A : Option Addr) (B : List UInt8) (s : RdSt) (w : World) (h : RRef w g hi n A c B s) :
    Calls Tryd.prog 84 #[.pointer (some ⟨g, 0, none⟩)] w fun e w' => e = .returned (.int .i64 (endE s.2 s.1 : Nat)) ∧ ∃ q, w' = w.drewN q := by
  obtain ⟨l, b⟩ := s
  obtain ⟨hlen, hs, hg, a, ha, hb, hd⟩ := h
  obtain ⟨x0, x1, x2⟩ := hb.c3
  have hcap := hs.cap
  have hmax := hs.max
  cases b with
  | true =>
    have hE : endE true l = 10 := rfl
    simp only
    rw [hE]
    clear hs hb hd hE
    go_enter Tryd.func84, Tryd.ntmps84
    go_wp2
    go_ret
    exact ⟨rfl, 0, rfl⟩
  | false =>
    have hl := hd rfl
    simp only at hl ⊢
    have hll : l.length = n - a := by rw [hl, List.length_drop]; omega
    by_cases hlt : a < n
    · have hE : endE false l = 11 := by unfold endE; rw [if_neg (by simp), if_pos (by omega)]
      have k1 : decide ((a : Int) < (n : Int)) = true := decide_eq_true (by omega)
      rw [hE]
      clear hs hb hd hE hl hll
      go_enter Tryd.func84, Tryd.ntmps84
      go_wp2
      go_quiet (fail)
      go_wp2
      go_ret
      exact ⟨rfl, _, rfl⟩
    · have hE : endE false l = 0 := by unfold endE; rw [if_neg (by simp), if_neg (by omega)]
      have k1 : decide ((a : Int) < (n : Int)) = false := decide_eq_false (by omega)
      rw [hE]
      clear hs hb hd hE hl hll
      go_enter Tryd.func84, Tryd.ntmps84
      go_wp2
      go_quiet (fail)
      go_wp2
      go_ret
      exact ⟨rfl, _, rfl⟩
theorem any_take {α} {p : α → Bool} {l : List α} {j : Nat} {x : α} (hx : l[j]? = some x) (h : ∀ e ∈ l.take j, p e = false) (hp : p x = false) : ∀ e ∈ l.take (j + 1), p e = false := by
  obtain ⟨h1, h2⟩ := List.getElem?_eq_some_iff.1 hx
  intro e he
  rw [List.take_succ_eq_append_getElem h1, List.mem_append, List.mem_singleton] at he
  rcases he with he | rfl
  · exact h e he
  · rw [h2]; exact hp
theorem any_none {α} {p : α → Bool} {l : List α} {j : Nat} (hj : l.length ≤ j) (h : ∀ e ∈ l.take j, p e = false) : l.any p = false := by
  rw [List.take_of_length_le hj] at h
  exact List.any_eq_false.2 fun e he => by simp [h e he]
set_option maxRecDepth 100000 in
set_option maxHeartbeats 4000000 in
theorem qcheck_any (k f t : Int) (te ix pr co : Nat) (ok : Bool) (dA : Option Addr) (dn dc : Nat) (eA : Option Addr) (n ec lo hi : Nat) (es : List Ent) (w : World) (hs : Sl w lo hi 3 eA n ec (ecells es)) (hdn : dn ≤ 9223372036854775807) :
    Calls Tryd.prog 28 #[.agg #[.int .i64 k, .int .i64 f, .int .i64 t, .int .u64 (te : Int), .int .u64 (ix : Int), .int .u64 (pr : Int), .int .u64 (co : Int), .bool ok, .slice dA dn dc, .slice eA n ec]] w fun e w' => e = .returned (.int .i64 (checkF k f t dn es : Nat)) ∧ Below w.heap.size w w' := by
  have hl : es.length = n := by have := hs.len; rw [ecells_len] at this; omega
  have hcap := hs.cap
  have hmax := hs.max
  obtain ⟨E, hE⟩ : ∃ E, checkF k f t dn es = E := ⟨_, rfl⟩
  rw [hE]
  unfold checkF at hE
  rw [hl] at hE
  have s0 := hs.alloc (by decide) (.cells #[.int .i64 k, .int .i64 f, .int .i64 t, .int .u64 (te : Int), .int .u64 (ix : Int), .int .u64 (pr : Int), .int .u64 (co : Int), .bool ok, .slice dA dn dc, .slice eA n ec] 41)
  have B0 := Blk.new w 41 #[.int .i64 k, .int .i64 f, .int .i64 t, .int .u64 (te : Int), .int .u64 (ix : Int), .int .u64 (pr : Int), .int .u64 (co : Int), .bool ok, .slice dA dn dc, .slice eA n ec]
  have D0 := (Below.refl w.heap.size w).alloc (Nat.le_refl _) (.cells #[.int .i64 k, .int .i64 f, .int .i64 t, .int .u64 (te : Int), .int .u64 (ix : Int), .int .u64 (pr : Int), .int .u64 (co : Int), .bool ok, .slice dA dn dc, .slice eA n ec] 41)
  obtain ⟨wb, hwb⟩ : ∃ wb, w.alloc (.cells #[.int .i64 k, .int .i64 f, .int .i64 t, .int .u64 (te : Int), .int .u64 (ix : Int), .int .u64 (pr : Int), .int .u64 (co : Int), .bool ok, .slice dA dn dc, .slice eA n ec] 41) = wb := ⟨_, rfl⟩
  rw [hwb] at s0 B0 D0
  have HWB := Lib.hid hwb
  have HL := Lib.hid hl
  have S0 := Lib.hid s0
  clear hwb hl hs s0
  by_cases h0 : k < 1
  rotate_left
  have q0 : decide (k < (1 : Int)) = false := decide_eq_false (by omega)
  rotate_left
  · have h := h0
    have q0 : decide (k < (1 : Int)) = true := decide_eq_true (by omega)
    rw [if_pos (.inl h)] at hE
    subst hE
    clear S0
    go_enter Tryd.func28, Tryd.ntmps28
    go_upto_region 1 with fail
    rw [HWB.out]
    generalize Value.agg #[.int .i64 k, .int .i64 f, .int .i64 t, .int .u64 (te : Int), .int .u64 (ix : Int), .int .u64 (pr : Int), .int .u64 (co : Int), .bool ok, .slice dA dn dc, .slice eA n ec] = V
    obtain ⟨x0, x1, x2, x3, x4, x5, x6, x7, x8, x9⟩ := B0.c10
    go_wp2
    go_ret
    exact ⟨rfl, D0⟩
  by_cases h1 : 12 < k
  rotate_left
  have q1 : decide ((12 : Int) < k) = false := decide_eq_false (by omega)
  rotate_left
  · have h := h1
    have q1 : decide ((12 : Int) < k) = true := decide_eq_true (by omega)
    rw [if_pos (.inr h)] at hE
    subst hE
    clear S0
    go_enter Tryd.func28, Tryd.ntmps28
    go_upto_region 1 with fail
    rw [HWB.out]
    generalize Value.agg #[.int .i64 k, .int .i64 f, .int .i64 t, .int .u64 (te : Int), .int .u64 (ix : Int), .int .u64 (pr : Int), .int .u64 (co : Int), .bool ok, .slice dA dn dc, .slice eA n ec] = V
    obtain ⟨x0, x1, x2, x3, x4, x5, x6, x7, x8, x9⟩ := B0.c10
    go_wp2
    go_ret
    exact ⟨rfl, D0⟩
  by_cases h2 : f < 0
  rotate_left
  have q2 : decide (f < (0 : Int)) = false := decide_eq_false (by omega)
  rotate_left
  · have h := h2
    have q2 : decide (f < (0 : Int)) = true := decide_eq_true (by omega)
    rw [if_neg (by omega), if_pos (.inl (by omega))] at hE
    subst hE
    clear S0
    go_enter Tryd.func28, Tryd.ntmps28
    go_upto_region 1 with fail
    rw [HWB.out]
    generalize Value.agg #[.int .i64 k, .int .i64 f, .int .i64 t, .int .u64 (te : Int), .int .u64 (ix : Int), .int .u64 (pr : Int), .int .u64 (co : Int), .bool ok, .slice dA dn dc, .slice eA n ec] = V
    obtain ⟨x0, x1, x2, x3, x4, x5, x6, x7, x8, x9⟩ := B0.c10
    go_wp2
    go_ret
    exact ⟨rfl, D0⟩
  by_cases h3 : 15 < f
  rotate_left
  have q3 : decide ((15 : Int) < f) = false := decide_eq_false (by omega)
  rotate_left
  · have h := h3
    have q3 : decide ((15 : Int) < f) = true := decide_eq_true (by omega)
    rw [if_neg (by omega), if_pos (.inl (by omega))] at hE
    subst hE
    clear S0
    go_enter Tryd.func28, Tryd.ntmps28
    go_upto_region 1 with fail
    rw [HWB.out]
    generalize Value.agg #[.int .i64 k, .int .i64 f, .int .i64 t, .int .u64 (te : Int), .int .u64 (ix : Int), .int .u64 (pr : Int), .int .u64 (co : Int), .bool ok, .slice dA dn dc, .slice eA n ec] = V
    obtain ⟨x0, x1, x2, x3, x4, x5, x6, x7, x8, x9⟩ := B0.c10
    go_wp2
    go_ret
    exact ⟨rfl, D0⟩
  by_cases h4 : t < 0
  rotate_left
  have q4 : decide (t < (0 : Int)) = false := decide_eq_false (by omega)
  rotate_left
  · have h := h4
    have q4 : decide (t < (0 : Int)) = true := decide_eq_true (by omega)
    rw [if_neg (by omega), if_pos (.inr (by omega))] at hE
    subst hE
    clear S0
    go_enter Tryd.func28, Tryd.ntmps28
    go_upto_region 1 with fail
    rw [HWB.out]
    generalize Value.agg #[.int .i64 k, .int .i64 f, .int .i64 t, .int .u64 (te : Int), .int .u64 (ix : Int), .int .u64 (pr : Int), .int .u64 (co : Int), .bool ok, .slice dA dn dc, .slice eA n ec] = V
    obtain ⟨x0, x1, x2, x3, x4, x5, x6, x7, x8, x9⟩ := B0.c10
    go_wp2
    go_ret
    exact ⟨rfl, D0⟩
  by_cases h5 : 15 < t
  rotate_left
  have q5 : decide ((15 : Int) < t) = false := decide_eq_false (by omega)
  rotate_left
  · have h := h5
    have q5 : decide ((15 : Int) < t) = true := decide_eq_true (by omega)
    rw [if_neg (by omega), if_pos (.inr (by omega))] at hE
    subst hE
    clear S0
    go_enter Tryd.func28, Tryd.ntmps28
    go_upto_region 1 with fail
    rw [HWB.out]
    generalize Value.agg #[.int .i64 k, .int .i64 f, .int .i64 t, .int .u64 (te : Int), .int .u64 (ix : Int), .int .u64 (pr : Int), .int .u64 (co : Int), .bool ok, .slice dA dn dc, .slice eA n ec] = V
    obtain ⟨x0, x1, x2, x3, x4, x5, x6, x7, x8, x9⟩ := B0.c10
    go_wp2
    go_ret
    exact ⟨rfl, D0⟩
  by_cases h6 : 700 < dn
  rotate_left
  have q6 : decide ((700 : Int) < (dn : Int)) = false := decide_eq_false (by omega)
  rotate_left
  · have h := h6
    have q6 : decide ((700 : Int) < (dn : Int)) = true := decide_eq_true (by omega)
    rw [if_neg (by omega), if_neg (by omega), if_pos (.inl h)] at hE
    subst hE
    clear S0
    go_enter Tryd.func28, Tryd.ntmps28
    go_upto_region 1 with fail
    rw [HWB.out]
    generalize Value.agg #[.int .i64 k, .int .i64 f, .int .i64 t, .int .u64 (te : Int), .int .u64 (ix : Int), .int .u64 (pr : Int), .int .u64 (co : Int), .bool ok, .slice dA dn dc, .slice eA n ec] = V
    obtain ⟨x0, x1, x2, x3, x4, x5, x6, x7, x8, x9⟩ := B0.c10
    go_wp2
    go_ret
    exact ⟨rfl, D0⟩
  by_cases h7 : 8 < n
  rotate_left
  have q7 : decide ((8 : Int) < (n : Int)) = false := decide_eq_false (by omega)
  rotate_left
  · have h := h7
    have q7 : decide ((8 : Int) < (n : Int)) = true := decide_eq_true (by omega)
    rw [if_neg (by omega), if_neg (by omega), if_pos (.inr (.inl h))] at hE
    subst hE
    clear S0
    go_enter Tryd.func28, Tryd.ntmps28
    go_upto_region 1 with fail
    rw [HWB.out]
    generalize Value.agg #[.int .i64 k, .int .i64 f, .int .i64 t, .int .u64 (te : Int), .int .u64 (ix : Int), .int .u64 (pr : Int), .int .u64 (co : Int), .bool ok, .slice dA dn dc, .slice eA n ec] = V
    obtain ⟨x0, x1, x2, x3, x4, x5, x6, x7, x8, x9⟩ := B0.c10
    go_wp2
    go_ret
    exact ⟨rfl, D0⟩
  rw [if_neg (by omega), if_neg (by omega)] at hE
  have HE := Lib.hid hE
  clear hE
  go_enter Tryd.func28, Tryd.ntmps28
  go_upto_region 1 with fail
  rw [HWB.out]
  generalize Value.agg #[.int .i64 k, .int .i64 f, .int .i64 t, .int .u64 (te : Int), .int .u64 (ix : Int), .int .u64 (pr : Int), .int .u64 (co : Int), .bool ok, .slice dA dn dc, .slice eA n ec] = V
  obtain ⟨x0, x1, x2, x3, x4, x5, x6, x7, x8, x9⟩ := B0.c10
  go_wp2
  go_loop [3] (fun i => ∃ j : Nat, j ≤ n ∧ i = .int .i64 j ∧ Hid (∀ e ∈ es.take j, longE e = false)) (fun i => n - (intOf i).toNat)
  case atStart => exact ⟨0, Nat.zero_le _, rfl, fun e he => by simp at he⟩
  case round =>
    obtain ⟨j, hj, rfl, hno⟩ := hrel
    by_cases hlt : j < n
    · obtain ⟨ad, y, rfl, hy, c0, c1, c2⟩ := (S0.out.now (by decide)).ent hlt
      have HY := Lib.hid hy
      clear hy
      by_cases hlong : 24 < y.l.length
      · have k1 : decide ((24 : Int) < (y.l.length : Int)) = true := decide_eq_true (by omega)
        have hE2 : E = 2 := by
          rw [← HE.out, if_pos (.inr (.inr (List.any_eq_true.2 ⟨y, List.mem_of_getElem? HY.out, by simp [longE]; omega⟩)))]
        clear HE
        subst hE2
        go_wp2
        go_ret
        exact ⟨rfl, D0⟩
      · have k1 : decide ((24 : Int) < (y.l.length : Int)) = false := decide_eq_false (by omega)
        go_wp2
        go_round
        case rel => exact ⟨j + 1, by omega, by go_num, any_take HY.out hno.out (by simp [longE]; omega)⟩
        case measure => simp [intOf]; omega
    · have hnl := any_none (p := longE) (j := j) (by rw [HL.out]; omega) hno.out
      have HE2 : Hid ((if es.any strangeE = true then 30 else 0) = E) := by
        show _ = _
        rw [← HE.out, if_neg (show ¬ (700 < dn ∨ 8 < n ∨ es.any longE = true) from by rw [hnl]; simp; omega)]
      clear HE hno
      have HNL := Lib.hid hnl
      clear hnl
      go_wp2
      go_loop [4] (fun i => ∃ j : Nat, j ≤ n ∧ i = .int .i64 j ∧ Hid (∀ e ∈ es.take j, strangeE e = false)) (fun i => n - (intOf i).toNat)
      case atStart => exact ⟨0, Nat.zero_le _, rfl, fun e he => by simp at he⟩
      case round =>
        obtain ⟨j, hj, rfl, hno⟩ := hrel
        by_cases hlt : j < n
        · obtain ⟨ad, y, rfl, hy, c0, c1, c2⟩ := (S0.out.now (by decide)).ent hlt
          have HY := Lib.hid hy
          clear hy
          by_cases hst : y.k < 0 ∨ 255 < y.k
          · have hE2 : E = 30 := by
              rw [← HE2.out, if_pos (List.any_eq_true.2 ⟨y, List.mem_of_getElem? HY.out, by simp [strangeE]; omega⟩)]
            clear HE2
            subst hE2
            by_cases hneg : y.k < 0
            · have k1 : decide (y.k < 0) = true := decide_eq_true hneg
              clear hst
              go_wp2
              go_ret
              exact ⟨rfl, D0⟩
            · have k1 : decide (y.k < 0) = false := decide_eq_false hneg
              have k2 : decide (255 < y.k) = true := decide_eq_true (by omega)
              clear hst
              go_wp2
              go_ret
              exact ⟨rfl, D0⟩
          · have k1 : decide (y.k < 0) = false := decide_eq_false (by omega)
            have k2 : decide (255 < y.k) = false := decide_eq_false (by omega)
            have hss : strangeE y = false := by simp [strangeE]; omega
            have HSS := Lib.hid hss
            clear hst hss
            go_wp2
            go_round
            case rel => exact ⟨j + 1, by omega, by go_num, any_take HY.out hno.out HSS.out⟩
            case measure => simp [intOf]; omega
        · have hnl := any_none (p := strangeE) (j := j) (by rw [HL.out]; omega) hno.out
          have hE2 : E = 0 := by rw [← HE2.out, hnl]; rfl
          clear HE2 hno hnl
          subst hE2
          go_wp2
          go_ret
          exact ⟨rfl, D0⟩
end Go.Proofs.YtciolppoanfiaaaDoor
