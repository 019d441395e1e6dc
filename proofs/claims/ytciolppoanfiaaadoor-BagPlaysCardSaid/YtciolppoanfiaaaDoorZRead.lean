import Derived.Test.YtciolppoanfiaaaDoorXBase
namespace Go.Proofs.YtciolppoanfiaaaDoor
open Go.RowKit

/-- how many bytes Bytes takes: too many if the two bytes say more than 1000 -/
def rdM (s : Bool) (l : List UInt8) : Nat := if 1000 < le (rdT s l 2) then (rdL s l 2).length + 1 else le (rdT s l 2)
def rbT (s : Bool) (l : List UInt8) : List UInt8 := rdT (rdS s l 2) (rdL s l 2) (rdM s l)
def rbL (s : Bool) (l : List UInt8) : List UInt8 := rdL (rdS s l 2) (rdL s l 2) (rdM s l)
def rbS (s : Bool) (l : List UInt8) : Bool := rdS (rdS s l 2) (rdL s l 2) (rdM s l)
def endE (s : Bool) (l : List UInt8) : Nat := if s then 10 else if 0 < l.length then 11 else 0
theorem only_of_below {a w : World} (h : Below a.heap.size a w) (row : Option Nat) : a.grownBy w row := ⟨h.os, h.tape, h.output, h.size, fun i hi _ => h.block i hi⟩
theorem Rdr.cells {w : World} {g lo hi : Nat} {l : List UInt8} {s : Bool} (h : Rdr w g lo hi l s) : ∃ A c, w.cell? ⟨g, 0, none⟩ = some (.slice A l.length c) ∧ w.cell? ⟨g, 1, none⟩ = some (.bool s) := by
  obtain ⟨_, v, hb, A, c, rfl, _⟩ := h
  exact ⟨A, c, hb.cell 0, hb.cell 1⟩
theorem Rdr.after {w w' : World} {g lo hi : Nat} {l : List UInt8} {s : Bool} (h : Rdr w g lo hi l s) (hb : Below w.heap.size w w') : Rdr w' g lo hi l s := by
  obtain ⟨h1, v, h2, h3⟩ := h
  exact ⟨h1, v, h2.after hb, h3.after hb⟩
theorem Rdr.lt {w : World} {g lo hi : Nat} {l : List UInt8} {s : Bool} (h : Rdr w g lo hi l s) : g < w.heap.size := by
  obtain ⟨_, v, h2, _⟩ := h
  exact h2.lt
theorem rdL_len (s : Bool) (l : List UInt8) (n : Nat) : (rdL s l n).length ≤ l.length := by unfold rdL; split <;> simp

set_option maxRecDepth 100000 in
set_option maxHeartbeats 800000 in
theorem rbytes_any (g lo hi : Nat) (l : List UInt8) (s : Bool) (w : World) (h : Rdr w g lo hi l s) (hl : l.length ≤ 100000) :
    Calls Tryd.prog 78 #[.pointer (some ⟨g, 0, none⟩)] w fun e w' =>
      ∃ v, e = .returned v ∧ w'.ownsRow w.heap.size 5 1 v (rbT s l).length ((rbT s l).map bv) ∧ Rdr w' g lo hi (rbL s l) (rbS s l) ∧ w.grownBy w' (some g) := by
  have hN := le_bound _ 2 (rdT_len s l 2)
  have e2 : (256 : Nat) ^ 2 = 65536 := by decide
  rw [e2] at hN
  have hl1 := rdL_len s l 2
  have hM : rdM s l = if 1000 < le (rdT s l 2) then (rdL s l 2).length + 1 else le (rdT s l 2) := rfl
  have h1 := rnum_any g lo hi 2 l s w h (by omega) (by omega)
  unfold rbT rbL rbS
  generalize rdM s l = M at hM ⊢
  generalize le (rdT s l 2) = N at hN hM h1
  generalize rdL s l 2 = l1 at hl1 hM h1 ⊢
  generalize rdS s l 2 = s1 at h1 ⊢
  clear e2
  have hMb : M ≤ 1000000 := by rw [hM]; split <;> omega
  have hTl := rdT_len s1 l1 M
  obtain ⟨n, hn⟩ : ∃ n, (rdT s1 l1 M).length = n := ⟨_, rfl⟩
  have HNN := Lib.hid hn
  rw [hn] at hTl
  clear hn
  by_cases hbig : 1000 < N
  · rw [if_pos hbig] at hM
    have HM := Lib.hid hM
    clear hM
    go_enter Tryd.func78, Tryd.ntmps78
    go_wp2_with fail
    refine h1.mono ?_
    rintro e w1 ⟨rfl, hr1, hg1⟩
    obtain ⟨A0, c0, x0, x1⟩ := hr1.cells
    have hi1 : ((M : Nat) : Int) = (l1.length : Int) + 1 := by have := HM.out; omega
    have ht := take_any g lo hi M l1 s1 _ hr1 hMb
    rw [hi1] at ht
    have hmm : l1.length ≤ 100000 := by omega
    clear hi1
    go_wp2_with fail
    refine ht.mono ?_
    rintro e w2 ⟨A, c, rfl, hs2, hr2, hg2⟩
    rw [HNN.out] at hs2 ⊢
    clear ht
    go_wp2_with fail
    refine (clone_any A n c _ _ _ _ hs2 (by omega)).mono ?_
    rintro e w3 ⟨v, rfl, hown, hb3⟩
    go_wp2
    go_ret
    rw [HNN.out]
    exact ⟨v, rfl, own_wide hown (Nat.le_trans hg1.size hg2.size), hr2.after hb3, only_trans (only_trans hg1 hg2) (only_of_below hb3 _)⟩
  · rw [if_neg hbig] at hM
    subst hM
    go_enter Tryd.func78, Tryd.ntmps78
    go_wp2_with fail
    refine h1.mono ?_
    rintro e w1 ⟨rfl, hr1, hg1⟩
    go_wp2_with fail
    refine (take_any g lo hi M l1 s1 _ hr1 hMb).mono ?_
    rintro e w2 ⟨A, c, rfl, hs2, hr2, hg2⟩
    rw [HNN.out] at hs2 ⊢
    go_wp2_with fail
    refine (clone_any A n c _ _ _ _ hs2 (by omega)).mono ?_
    rintro e w3 ⟨v, rfl, hown, hb3⟩
    go_wp2
    go_ret
    rw [HNN.out]
    exact ⟨v, rfl, own_wide hown (Nat.le_trans hg1.size hg2.size), hr2.after hb3, only_trans (only_trans hg1 hg2) (only_of_below hb3 _)⟩
set_option maxRecDepth 100000 in
theorem rend_any (g lo hi : Nat) (l : List UInt8) (s : Bool) (w : World) (h : Rdr w g lo hi l s) :
    Calls Tryd.prog 80 #[.pointer (some ⟨g, 0, none⟩)] w fun e w' => e = .returned (.int .i64 (endE s l : Nat)) ∧ w = w' := by
  obtain ⟨A0, c0, x0, x1⟩ := h.cells
  unfold endE
  generalize l.length = n at x0 ⊢
  clear h
  cases s with
  | true =>
    go_enter Tryd.func80, Tryd.ntmps80
    go_wp2
    go_ret
    exact ⟨rfl, rfl⟩
  | false =>
    by_cases hn : 0 < n
    · rw [if_pos hn]
      go_enter Tryd.func80, Tryd.ntmps80
      go_wp2
      go_ret
      exact ⟨rfl, rfl⟩
    · rw [if_neg hn]
      go_enter Tryd.func80, Tryd.ntmps80
      go_wp2
      go_ret
      exact ⟨rfl, rfl⟩
end Go.Proofs.YtciolppoanfiaaaDoor

namespace Go.Proofs.YtciolppoanfiaaaDoor
open Go.RowKit

theorem run_min_lit {P : Program} (ts : Array TypeId) (t : TypeId) (n : Nat) (h : n ≤ 1000) (W : World) : (Builtin.min_ ts t #[.int .i64 (n : Int), .int .i64 1000]).run P W = .ok (.int .i64 (n : Int)) W := by
  have e : (if (1000 : Int) < (n : Int) then (1000 : Int) else (n : Int)) = (n : Int) := by rw [if_neg (by omega)]
  conv => rhs; rw [← e]
  rfl
/-- bytes written: their number, and they -/
def bytesF (l : List UInt8) : List UInt8 := num l.length 2 ++ l
theorem bytesF_len (l : List UInt8) : (bytesF l).length = l.length + 2 := by simp [bytesF, num_len]; omega
set_option maxRecDepth 100000 in
set_option maxHeartbeats 1600000 in
theorem wbytes_any (g n : Nat) (v u : Value) (xs : List Value) (l : List UInt8) (w : World) (hb : Blk w g 73 #[v]) (hown : w.ownsRow (g + 1) 5 1 v n xs)
    {lo hi : Nat} (hu : BytesIn w lo hi u l) (hig : hi ≤ g) (hl : l.length ≤ 1000) (hn : n + l.length + 2 ≤ 1000000) :
    Calls Tryd.prog 60 #[.pointer (some ⟨g, 0, none⟩), u] w fun e w' =>
      e = .returned (.tuple #[]) ∧ ∃ v', Blk w' g 73 #[v'] ∧ w'.ownsRow (g + 1) 5 1 v' (n + (l.length + 2)) (xs ++ (bytesF l).map bv) ∧ Below g w w' := by
  obtain ⟨i0, hi0, hz0, hz1, hz2⟩ := info_parts u8_info
  obtain ⟨A, c, rfl, hs⟩ := hu
  have hF : (bytesF l).map bv = (num l.length 2).map bv ++ l.map bv := by simp [bytesF]
  rw [hF]
  have hcap := hs.cap
  have hmax := hs.max
  clear hF
  obtain ⟨m, hm⟩ : ∃ m, l.length = m := ⟨_, rfl⟩
  rw [hm] at hs hl hn hcap ⊢
  clear hm
  have hmin := run_min_lit (P := Tryd.prog) #[3, 3] 3 m hl
  obtain ⟨A1, hA1, hcut⟩ := cut_h 22 5 i0 Tryd.underlying22 hi0 A m c (m : Int) m (by omega) (by omega) (by omega)
  have hs1 : Sl w lo hi 1 A1 m c (l.map bv) := ⟨hs.len, hs.cap, hs.max, fun h => by rw [hA1 h]; exact hs.at_ h⟩
  clear hs hA1
  have hbg := hb.lt
  go_enter Tryd.func60, Tryd.ntmps60
  go_wp2_with fail
  refine (wnum_any g n m 2 v xs _ hb hown (by omega) (by omega) (by omega) (by omega)).mono ?_
  rintro e w1 ⟨rfl, v1, hb1, hown1, hbel1⟩
  have x0 := hb1.cell 0
  have xf := hb1.frozen 0
  simp only [List.getElem?_toArray, List.getElem?_cons_zero] at x0
  have hs2 := hs1.below hbel1 hig
  obtain ⟨A2, c2, rfl, -⟩ := own_sl hown1
  have hb1l := hb1.lt
  go_wp2_with (at_builtin; refine wpList_app _ rfl (.tmp 18) (.tmp 19) 22 rfl (g + 1) 5 i0 _ 1 1 Tryd.underlying22 hi0 hz0 hz1 hz2 rfl (by omega) (.slice A2 (n + 2) c2) (n + 2) _ rfl hown1 lo hi A1 m c (l.map bv) rfl hs2 (bv_one _) (by simp only [maxLen]; omega) (by omega) (by omega) ?_; intro v2 w2 hown2 hg2 hat2; have hbr2 : Blk w2 g 73 #[.slice A2 (n + 2) c2] := hb1.grown hg2 (own_off hown1 (Nat.lt_succ_self g)); have hf2 := hbr2.frozen 0; have hx2 := hbr2.cell 0; simp only [List.getElem?_toArray, List.getElem?_cons_zero] at hx2; obtain ⟨A3, c3, rfl, -⟩ := own_sl hown2)
  go_end0
  refine ⟨rfl, _, by simpa using hbr2.set_ 0 _, ?_, ?_⟩
  · have := own_set hown2 (Nat.lt_succ_self g) 0 (Value.slice A3 (n + 2 + m) c3)
    rw [show n + (m + 2) = n + 2 + m by omega, ← List.append_assoc]
    exact this
  · exact (hbel1.grown hg2 (by omega) (fun q e => by have := (hown1.lt q e).1; omega)).setCell (Nat.le_refl _) _
set_option maxRecDepth 100000 in
theorem truth_any (b : Bool) (w : World) : Calls Tryd.prog 59 #[.bool b] w fun e w' => e = .returned (.int .u64 (b.toNat : Nat)) ∧ w = w' := by
  cases b
  all_goals
    go_enter Tryd.func59, Tryd.ntmps59
    go_wp2
    go_ret
    exact ⟨rfl, rfl⟩
set_option maxRecDepth 100000 in
theorem node_any (n : Int) (w : World) : Calls Tryd.prog 57 #[.int .i64 n] w fun e w' => e = .returned (.bool (decide (0 ≤ n ∧ n ≤ 15))) ∧ w = w' := by
  by_cases h : 0 ≤ n
  · have hd : decide (0 ≤ n ∧ n ≤ 15) = decide (n < 16) := decide_eq_decide.2 ⟨fun _ => by omega, fun _ => by omega⟩
    rw [hd]
    have q : decide (0 ≤ n) = true := decide_eq_true h
    clear hd
    go_enter Tryd.func57, Tryd.ntmps57
    go_wp2
    go_ret
    exact ⟨rfl, rfl⟩
  · rw [decide_eq_false (p := 0 ≤ n ∧ n ≤ 15) (by omega)]
    have q : decide (0 ≤ n) = false := decide_eq_false h
    go_enter Tryd.func57, Tryd.ntmps57
    go_wp2
    go_ret
    exact ⟨rfl, rfl⟩
end Go.Proofs.YtciolppoanfiaaaDoor
