import Derived.Test.YtciolppoanfiaaaDoorXRead
namespace Go.Proofs.YtciolppoanfiaaaDoor
open Go.RowKit

theorem run_min_lit {P : Program} (ts : Array TypeId) (t : TypeId) (n : Nat) (h : n ≤ 1000) (W : World) : (Builtin.min_ ts t #[.int .i64 (n : Int), .int .i64 1000]).run P W = .ok (.int .i64 (n : Int)) W := by
  have e : (if (1000 : Int) < (n : Int) then (1000 : Int) else (n : Int)) = (n : Int) := by rw [if_neg (by omega)]
  conv => rhs; rw [← e]
  rfl
/-- bytes written: their number, and they -/
def bytesF (l : List UInt8) : List UInt8 := num l.length 2 ++ l
theorem bytesF_len (l : List UInt8) : (bytesF l).length = l.length + 2 := by simp [bytesF, num_len]; omega
set_option maxRecDepth 100000 in
set_option maxHeartbeats 1600000 in
theorem wbytes_any (g n : Nat) (v u : Value) (xs : List Value) (l : List UInt8) (w : World) (hb : Blk w g 73 #[v]) (hown : w.ownsRow (g + 1) 5 1 v n xs)
    {lo hi : Nat} (hu : BytesIn w lo hi u l) (hig : hi ≤ g) (hl : l.length ≤ 1000) (hn : n + l.length + 2 ≤ 1000000) :
    Calls Tryd.prog 60 #[.pointer (some ⟨g, 0, none⟩), u] w fun e w' =>
      e = .returned (.tuple #[]) ∧ ∃ v', Blk w' g 73 #[v'] ∧ w'.ownsRow (g + 1) 5 1 v' (n + (l.length + 2)) (xs ++ (bytesF l).map bv) ∧ Below g w w' := by
  obtain ⟨i0, hi0, hz0, hz1, hz2⟩ := info_parts u8_info
  obtain ⟨A, c, rfl, hs⟩ := hu
  have hF : (bytesF l).map bv = (num l.length 2).map bv ++ l.map bv := by simp [bytesF]
  rw [hF]
  have hcap := hs.cap
  have hmax := hs.max
  clear hF
  obtain ⟨m, hm⟩ : ∃ m, l.length = m := ⟨_, rfl⟩
  rw [hm] at hs hl hn hcap ⊢
  clear hm
  have hmin := run_min_lit (P := Tryd.prog) #[3, 3] 3 m hl
  obtain ⟨A1, hA1, hcut⟩ := cut_h 22 5 i0 Tryd.underlying22 hi0 A m c (m : Int) m (by omega) (by omega) (by omega)
  have hs1 : Sl w lo hi 1 A1 m c (l.map bv) := ⟨hs.len, hs.cap, hs.max, fun h => by rw [hA1 h]; exact hs.at_ h⟩
  clear hs hA1
  have hbg := hb.lt
  go_enter Tryd.func60, Tryd.ntmps60
  go_wp2_with fail
  refine (wnum_any g n m 2 v xs _ hb hown (by omega) (by omega) (by omega) (by omega)).mono ?_
  rintro e w1 ⟨rfl, v1, hb1, hown1, hbel1⟩
  have x0 := hb1.cell 0
  have xf := hb1.frozen 0
  simp only [List.getElem?_toArray, List.getElem?_cons_zero] at x0
  have hs2 := hs1.below hbel1 hig
  obtain ⟨A2, c2, rfl, -⟩ := own_sl hown1
  have hb1l := hb1.lt
  go_wp2_with (at_builtin; refine wpList_app _ rfl (.tmp 18) (.tmp 19) 22 rfl (g + 1) 5 i0 _ 1 1 Tryd.underlying22 hi0 hz0 hz1 hz2 rfl (by omega) (.slice A2 (n + 2) c2) (n + 2) _ rfl hown1 lo hi A1 m c (l.map bv) rfl hs2 (bv_one _) (by simp only [maxLen]; omega) (by omega) (by omega) ?_; intro v2 w2 hown2 hg2 hat2; have hbr2 : Blk w2 g 73 #[.slice A2 (n + 2) c2] := hb1.grown hg2 (own_off hown1 (Nat.lt_succ_self g)); have hf2 := hbr2.frozen 0; have hx2 := hbr2.cell 0; simp only [List.getElem?_toArray, List.getElem?_cons_zero] at hx2; obtain ⟨A3, c3, rfl, -⟩ := own_sl hown2)
  go_end0
  refine ⟨rfl, _, by simpa using hbr2.set_ 0 _, ?_, ?_⟩
  · have := own_set hown2 (Nat.lt_succ_self g) 0 (Value.slice A3 (n + 2 + m) c3)
    rw [show n + (m + 2) = n + 2 + m by omega, ← List.append_assoc]
    exact this
  · exact (hbel1.grown hg2 (by omega) (fun q e => by have := (hown1.lt q e).1; omega)).setCell (Nat.le_refl _) _
set_option maxRecDepth 100000 in
theorem truth_any (b : Bool) (w : World) : Calls Tryd.prog 59 #[.bool b] w fun e w' => e = .returned (.int .u64 (b.toNat : Nat)) ∧ w = w' := by
  cases b
  all_goals
    go_enter Tryd.func59, Tryd.ntmps59
    go_wp2
    go_ret
    exact ⟨rfl, rfl⟩
set_option maxRecDepth 100000 in
theorem node_any (n : Int) (w : World) : Calls Tryd.prog 57 #[.int .i64 n] w fun e w' => e = .returned (.bool (decide (0 ≤ n ∧ n ≤ 15))) ∧ w = w' := by
  by_cases h : 0 ≤ n
  · have hd : decide (0 ≤ n ∧ n ≤ 15) = decide (n < 16) := decide_eq_decide.2 ⟨fun _ => by omega, fun _ => by omega⟩
    rw [hd]
    have q : decide (0 ≤ n) = true := decide_eq_true h
    clear hd
    go_enter Tryd.func57, Tryd.ntmps57
    go_wp2
    go_ret
    exact ⟨rfl, rfl⟩
  · rw [decide_eq_false (p := 0 ≤ n ∧ n ≤ 15) (by omega)]
    have q : decide (0 ≤ n) = false := decide_eq_false h
    go_enter Tryd.func57, Tryd.ntmps57
    go_wp2
    go_ret
    exact ⟨rfl, rfl⟩
end Go.Proofs.YtciolppoanfiaaaDoor
