import Derived.Test.YtbgdepaffgeinaaEzLast
namespace Go.Proofs.Ytbgdepaffgeinaa
open Go.RowKit

set_option maxRecDepth 100000 in
theorem rlast_any (base n c : Nat) (bt : Int) (A : Option Addr) (w : World) (hb : base < 1152921504606846976) (hn : n ≤ 1000) :
    Calls Try.prog 23 #[.agg #[.int .u64 (base : Int), .int .u64 bt, .slice A n c]] w fun e w' => e = .returned (.int .u64 ((base : Int) + n)) ∧ Below w.heap.size w w' := by
  go_enter Try.func23, Try.ntmps23
  go_wp2
  go_ret
  exact ⟨rfl, (Below.refl _ _).alloc (Nat.le_refl _) _⟩
set_option maxRecDepth 100000 in
theorem short_any (base n c : Nat) (A : Option Addr) (w : World) :
    Calls Try.prog 13 #[.int .u64 (base : Int), .slice A n c, .int .i64 30] w fun e w' => e = .returned (.bool (decide (base < 1152921504606846976 ∧ n ≤ 30))) ∧ w' = w := by
  by_cases h : base < 1152921504606846976
  · have hd : decide (base < 1152921504606846976 ∧ n ≤ 30) = decide ((n : Int) ≤ 30) := decide_eq_decide.2 (by omega)
    rw [hd]
    clear hd
    have hd2 : decide ((base : Int) < 1152921504606846976) = true := decide_eq_true (by omega)
    clear h
    go_enter Try.func13, Try.ntmps13
    go_wp2
    refine bodyPost_ret (results_tmp rfl _ _ _) rfl ⟨?_, rfl⟩
    simp
  · have hd : decide (base < 1152921504606846976 ∧ n ≤ 30) = false := decide_eq_false (by omega)
    rw [hd]
    clear hd
    have hd2 : decide ((base : Int) < 1152921504606846976) = false := decide_eq_false (by omega)
    clear h
    go_enter Try.func13, Try.ntmps13
    go_wp2
    refine bodyPost_ret (results_tmp rfl _ _ _) rfl ⟨?_, rfl⟩
    simp
set_option maxRecDepth 100000 in
theorem doc_any (base n c : Nat) (bt : Int) (A : Option Addr) (w : World) :
    Calls Try.prog 14 #[.agg #[.int .u64 (base : Int), .int .u64 bt, .slice A n c]] w fun e w' => e = .returned (.agg #[.int .u64 (base : Int), .int .u64 bt, .slice A n c]) ∧ Below w.heap.size w w' := by
  go_enter Try.func14, Try.ntmps14
  go_wp2
  refine bodyPost_ret (v := .agg #[.int .u64 (base : Int), .int .u64 bt, .slice A n c]) (by simp [results, Try.results14, go_sem]) rfl ⟨rfl, ((Below.refl _ w).alloc (Nat.le_refl _) _).alloc (by simp) _⟩
end Go.Proofs.Ytbgdepaffgeinaa

namespace Go.Proofs.Ytbgdepaffgeinaa
open Go.RowKit

set_option maxRecDepth 100000 in
set_option maxHeartbeats 800000 in
theorem rterm_any (base bt n c i lo hi : Nat) (A : Option Addr) (es : List Ent) (w : World) (hs : Sl w lo hi 3 A n c (ecells es)) (hb : base < 1152921504606846976) (hn : n ≤ 1000) :
    Calls Try.prog 17 #[.agg #[.int .u64 (base : Int), .int .u64 (bt : Int), .slice A n c], .int .u64 (i : Int)] w fun e w' => e = .returned (.tuple #[.int .u64 (termAt base bt es i : Nat), .bool (decide (base ≤ i ∧ i ≤ base + n))]) ∧ Below w.heap.size w w' := by
  have hl : es.length = n := by have := hs.len; rw [ecells_len] at this; omega
  by_cases h : i = base
  · subst h
    have hd : decide (i ≤ i ∧ i ≤ i + n) = true := decide_eq_true ⟨Nat.le_refl _, by omega⟩
    have ht : termAt i bt es i = bt := by simp [termAt]
    rw [hd, ht]
    go_enter Try.func17, Try.ntmps17
    go_wp2
    go_ret2
    exact ⟨rfl, (Below.refl _ _).alloc (Nat.le_refl _) _⟩
  · have hd0 : decide (base ≤ i ∧ i ≤ base + n) = decide (base < i ∧ i ≤ base + n) := decide_eq_decide.2 ⟨fun _ => by omega, fun _ => by omega⟩
    have ht : termAt base bt es i = (entAt base es i).t := by simp [termAt, h]
    rw [hd0, ht]
    clear hd0 ht
    obtain ⟨d, hdd⟩ : ∃ d, decide (base < i ∧ i ≤ base + n) = d := ⟨_, rfl⟩
    obtain ⟨T, hTT⟩ : ∃ T, (entAt base es i).t = T := ⟨_, rfl⟩
    rw [hdd, hTT]
    have HD := Lib.hid hdd
    have HT := Lib.hid hTT
    clear hdd hTT
    have hne : ((i : Int) == (base : Int)) = false := by simp; omega
    have hcap := hs.cap
    have hmax := hs.max
    have hsb := hs.alloc (by decide) (.cells #[.int .u64 (base : Int), .int .u64 (bt : Int), .slice A n c] 28)
    obtain ⟨b0, b1, b2⟩ := (Blk.new w 28 #[.int .u64 (base : Int), .int .u64 (bt : Int), .slice A n c]).c3
    go_enter Try.func17, Try.ntmps17
    go_wp2
    go_loop [6] (fun s => ∃ k : Nat, k ≤ n ∧ s = .int .i64 k ∧ ¬ (base < i ∧ i ≤ base + k)) (fun s => n - (intOf s).toNat)
    case atStart => exact ⟨0, Nat.zero_le _, rfl, by omega⟩
    case round =>
      obtain ⟨k, hk, rfl, hno⟩ := hrel
      by_cases hlt : k < n
      · obtain ⟨ad, e, rfl, he, c0, c1, c2⟩ := hsb.ent hlt
        by_cases hik : base + 1 + k = i
        · have hd : decide (base < i ∧ i ≤ base + n) = true := decide_eq_true ⟨by omega, by omega⟩
          have hee : entAt base es i = e := entAt_in (by omega) (by rw [← he]; congr 1; omega)
          have heq : (((base : Int) + 1 + (k : Int)) == (i : Int)) = true := by simp; omega
          go_wp2
          go_ret2
          rw [← HD.out, ← HT.out, hd, hee]
          exact ⟨rfl, (Below.refl _ _).alloc (Nat.le_refl _) _⟩
        · have heq : (((base : Int) + 1 + (k : Int)) == (i : Int)) = false := by simp; omega
          go_wp2
          go_round
          case rel => exact ⟨k + 1, by omega, by go_num, by omega⟩
          case measure => simp [intOf]; omega
      · have hd : decide (base < i ∧ i ≤ base + n) = false := decide_eq_false (by omega)
        have hee : entAt base es i = Ent.zero := entAt_out (by omega)
        go_wp2
        go_ret2
        rw [← HD.out, ← HT.out, hd, hee]
        exact ⟨rfl, (Below.refl _ _).alloc (Nat.le_refl _) _⟩
end Go.Proofs.Ytbgdepaffgeinaa

namespace Go.Proofs.Ytbgdepaffgeinaa
open Go.RowKit

set_option maxRecDepth 100000 in
set_option maxHeartbeats 800000 in
theorem rentry_any (base bt n c i lo hi : Nat) (A : Option Addr) (es : List Ent) (w : World) (hs : Sl w lo hi 3 A n c (ecells es)) (hb : base < 1152921504606846976) (hn : n ≤ 1000) :
    Calls Try.prog 19 #[.agg #[.int .u64 (base : Int), .int .u64 (bt : Int), .slice A n c], .int .u64 (i : Int)] w fun e w' => e = .returned (.tuple #[(entAt base es i).v, .bool (decide (base < i ∧ i ≤ base + n))]) ∧ Below w.heap.size w w' := by
  have hl : es.length = n := by have := hs.len; rw [ecells_len] at this; omega
  obtain ⟨d, hdd⟩ : ∃ d, decide (base < i ∧ i ≤ base + n) = d := ⟨_, rfl⟩
  obtain ⟨T, hTT⟩ : ∃ T, (entAt base es i) = T := ⟨_, rfl⟩
  rw [hdd, hTT]
  have HD := Lib.hid hdd
  have HT := Lib.hid hTT
  clear hdd hTT
  have hcap := hs.cap
  have hmax := hs.max
  have D1 := ((Below.refl _ w).alloc (Nat.le_refl _) (.cells #[.int .u64 (base : Int), .int .u64 (bt : Int), .slice A n c] 28)).alloc (by simp) (.cells #[.int .u64 0, .int .i64 0, .slice none 0 0] 35)
  have hsb := hs.after (by decide) D1
  have B1 := (Blk.new w 28 #[.int .u64 (base : Int), .int .u64 (bt : Int), .slice A n c]).alloc (.cells #[.int .u64 0, .int .i64 0, .slice none 0 0] 35)
  have B2 := Blk.new (w.alloc (.cells #[.int .u64 (base : Int), .int .u64 (bt : Int), .slice A n c] 28)) 35 #[.int .u64 0, .int .i64 0, .slice none 0 0]
  simp only [alloc_size] at B2
  obtain ⟨b0, b1, b2⟩ := B1.c3
  obtain ⟨y0, y1, y2⟩ := B2.c3
  have z0 := B2.frozen 0
  have z1 := B2.frozen 1
  have z2 := B2.frozen 2
  go_enter Try.func19, Try.ntmps19
  go_wp2
  go_loop [6] (fun s => ∃ k : Nat, k ≤ n ∧ s = .int .i64 k ∧ ¬ (base < i ∧ i ≤ base + k)) (fun s => n - (intOf s).toNat)
  case atStart => exact ⟨0, Nat.zero_le _, rfl, by omega⟩
  case round =>
    obtain ⟨k, hk, rfl, hno⟩ := hrel
    by_cases hlt : k < n
    · obtain ⟨ad, e, rfl, he, c0, c1, c2⟩ := hsb.ent hlt
      by_cases hik : base + 1 + k = i
      · have hd : decide (base < i ∧ i ≤ base + n) = true := decide_eq_true ⟨by omega, by omega⟩
        have hee : entAt base es i = e := entAt_in (by omega) (by rw [← he]; congr 1; omega)
        have heq : (((base : Int) + 1 + (k : Int)) == (i : Int)) = true := by simp; omega
        go_wp2
        refine bodyPost_ret (v := .tuple #[.agg #[(.int .u64 (e.t : Int)), (.int .i64 e.k), (.slice e.A e.l.length e.c)], .bool true]) (by simp [results, Try.results19, go_sem]) rfl ⟨?_, ((Below.refl _ w).alloc (Nat.le_refl _) _).alloc (by simp) _⟩
        rw [← HD.out, ← HT.out, hd, hee]
        rfl
      · have heq : (((base : Int) + 1 + (k : Int)) == (i : Int)) = false := by simp; omega
        go_wp2
        go_round
        case rel => exact ⟨k + 1, by omega, by go_num, by omega⟩
        case measure => simp [intOf]; omega
    · have hd : decide (base < i ∧ i ≤ base + n) = false := decide_eq_false (by omega)
      have hee : entAt base es i = Ent.zero := entAt_out (by omega)
      go_wp2
      refine bodyPost_ret (v := .tuple #[.agg #[(.int .u64 0), (.int .i64 0), (.slice none 0 0)], .bool false]) (by simp [results, Try.results19, go_sem]) rfl ⟨?_, ((Below.refl _ w).alloc (Nat.le_refl _) _).alloc (by simp) _⟩
      rw [← HD.out, ← HT.out, hd, hee]
      rfl
end Go.Proofs.Ytbgdepaffgeinaa

namespace Go.Proofs.Ytbgdepaffgeinaa
open Go.RowKit

set_option maxRecDepth 100000 in
theorem rlastTerm_any (base bt n c lo hi : Nat) (A : Option Addr) (es : List Ent) (w : World) (hs : Sl w lo hi 3 A n c (ecells es)) (_hb : base < 1152921504606846976) (hn : n ≤ 1000) :
    Calls Try.prog 25 #[.agg #[.int .u64 (base : Int), .int .u64 (bt : Int), .slice A n c]] w fun e w' => e = .returned (.int .u64 (lastTerm base bt es : Nat)) ∧ Below w.heap.size w w' := by
  have hl : es.length = n := by have := hs.len; rw [ecells_len] at this; omega
  have hcap := hs.cap
  have hmax := hs.max
  by_cases h0 : n = 0
  · have hL : lastTerm base bt es = bt := by unfold lastTerm; rw [hl, h0]; simp [termAt]
    rw [hL]
    subst h0
    go_enter Try.func25, Try.ntmps25
    go_wp2
    go_ret
    exact ⟨rfl, (Below.refl _ _).alloc (Nat.le_refl _) _⟩
  · obtain ⟨ad, e, rfl, he, c0, c1, c2⟩ := (hs.alloc (by decide) (.cells #[.int .u64 (base : Int), .int .u64 (bt : Int), .slice A n c] 28)).ent (k := n - 1) (by omega)
    have hL : lastTerm base bt es = e.t := by
      unfold lastTerm termAt
      rw [hl, if_neg (by omega), entAt_in (by omega) (by rw [← he]; congr 1; omega)]
    rw [hL]
    go_enter Try.func25, Try.ntmps25
    go_wp2
    go_ret
    exact ⟨rfl, (Below.refl _ _).alloc (Nat.le_refl _) _⟩
set_option maxRecDepth 100000 in
theorem rnewer_any (base bt n c term last lo hi : Nat) (A : Option Addr) (es : List Ent) (w : World) (hs : Sl w lo hi 3 A n c (ecells es)) (hb : base < 1152921504606846976) (hn : n ≤ 1000) :
    Calls Try.prog 26 #[.agg #[.int .u64 (base : Int), .int .u64 (bt : Int), .slice A n c], .int .u64 (term : Int), .int .u64 (last : Int)] w fun e w' => e = .returned (.bool (decide (lastTerm base bt es < term ∨ (term = lastTerm base bt es ∧ base + n ≤ last)))) ∧ Below w.heap.size w w' := by
  have hL := rlastTerm_any base bt n c lo _ A es (w.alloc (.cells #[.int .u64 (base : Int), .int .u64 (bt : Int), .slice A n c] 28)) (hs.alloc (by decide) _) hb hn
  generalize lastTerm base bt es = T at hL ⊢
  by_cases h2 : term = T
  · subst h2
    have hd : decide (term < term ∨ (term = term ∧ base + n ≤ last)) = decide ((base : Int) + n ≤ last) := decide_eq_decide.2 ⟨fun _ => by omega, fun _ => .inr ⟨rfl, by omega⟩⟩
    rw [hd]
    go_enter Try.func26, Try.ntmps26
    go_wp2_with fail
    refine hL.mono ?_
    rintro e' w1 ⟨rfl, hb1⟩
    obtain ⟨x0, x1, x2⟩ := ((Blk.new w _ _).after hb1).c3
    go_wp2_with (go_at_call 23; refine (rlast_any base n c bt A _ hb hn).mono ?_; rintro e w3 ⟨rfl, hb3⟩)
    go_ret
    exact ⟨rfl, (below_boxed hb1).trans (hb3.mono (below_boxed hb1).size)⟩
  · have hne : ((term : Int) != (T : Int)) = true := by simp; omega
    by_cases h3 : T < term
    · have hd : decide (T < term ∨ (term = T ∧ base + n ≤ last)) = true := decide_eq_true (.inl h3)
      rw [hd]
      go_enter Try.func26, Try.ntmps26
      go_wp2_with (go_at_call 25; refine hL.mono ?_; rintro e' w1 ⟨rfl, hb1⟩)
      go_ret
      exact ⟨rfl, below_boxed hb1⟩
    · have hd : decide (T < term ∨ (term = T ∧ base + n ≤ last)) = false := decide_eq_false (by omega)
      rw [hd]
      go_enter Try.func26, Try.ntmps26
      go_wp2_with (go_at_call 25; refine hL.mono ?_; rintro e' w1 ⟨rfl, hb1⟩)
      go_ret
      exact ⟨rfl, below_boxed hb1⟩
end Go.Proofs.Ytbgdepaffgeinaa
