import Derived.Test.YtciolppoanfiaaaDoorXBase
namespace Go.Proofs.YtciolppoanfiaaaDoor
open Go.RowKit

/-- how many bytes Bytes takes: too many if the two bytes say more than 1000 -/
def rdM (s : Bool) (l : List UInt8) : Nat := if 1000 < le (rdT s l 2) then (rdL s l 2).length + 1 else le (rdT s l 2)
def rbT (s : Bool) (l : List UInt8) : List UInt8 := rdT (rdS s l 2) (rdL s l 2) (rdM s l)
def rbL (s : Bool) (l : List UInt8) : List UInt8 := rdL (rdS s l 2) (rdL s l 2) (rdM s l)
def rbS (s : Bool) (l : List UInt8) : Bool := rdS (rdS s l 2) (rdL s l 2) (rdM s l)
def endE (s : Bool) (l : List UInt8) : Nat := if s then 10 else if 0 < l.length then 11 else 0
theorem only_of_below {a w : World} (h : Below a.heap.size a w) (row : Option Nat) : a.grownBy w row := ⟨h.os, h.tape, h.output, h.size, fun i hi _ => h.block i hi⟩
theorem Rdr.cells {w : World} {g lo hi : Nat} {l : List UInt8} {s : Bool} (h : Rdr w g lo hi l s) : ∃ A c, w.cell? ⟨g, 0, none⟩ = some (.slice A l.length c) ∧ w.cell? ⟨g, 1, none⟩ = some (.bool s) := by
  obtain ⟨_, v, hb, A, c, rfl, _⟩ := h
  exact ⟨A, c, hb.cell 0, hb.cell 1⟩
theorem Rdr.after {w w' : World} {g lo hi : Nat} {l : List UInt8} {s : Bool} (h : Rdr w g lo hi l s) (hb : Below w.heap.size w w') : Rdr w' g lo hi l s := by
  obtain ⟨h1, v, h2, h3⟩ := h
  exact ⟨h1, v, h2.after hb, h3.after hb⟩
theorem Rdr.lt {w : World} {g lo hi : Nat} {l : List UInt8} {s : Bool} (h : Rdr w g lo hi l s) : g < w.heap.size := by
  obtain ⟨_, v, h2, _⟩ := h
  exact h2.lt
theorem rdL_len (s : Bool) (l : List UInt8) (n : Nat) : (rdL s l n).length ≤ l.length := by unfold rdL; split <;> simp

set_option maxRecDepth 100000 in
set_option maxHeartbeats 800000 in
theorem rbytes_any (g lo hi : Nat) (l : List UInt8) (s : Bool) (w : World) (h : Rdr w g lo hi l s) (hl : l.length ≤ 100000) :
    Calls Tryd.prog 78 #[.pointer (some ⟨g, 0, none⟩)] w fun e w' =>
      ∃ v, e = .returned v ∧ w'.ownsRow w.heap.size 5 1 v (rbT s l).length ((rbT s l).map bv) ∧ Rdr w' g lo hi (rbL s l) (rbS s l) ∧ w.grownBy w' (some g) := by
  have hN := le_bound _ 2 (rdT_len s l 2)
  have e2 : (256 : Nat) ^ 2 = 65536 := by decide
  rw [e2] at hN
  have hl1 := rdL_len s l 2
  have hM : rdM s l = if 1000 < le (rdT s l 2) then (rdL s l 2).length + 1 else le (rdT s l 2) := rfl
  have h1 := rnum_any g lo hi 2 l s w h (by omega) (by omega)
  unfold rbT rbL rbS
  generalize rdM s l = M at hM ⊢
  generalize le (rdT s l 2) = N at hN hM h1
  generalize rdL s l 2 = l1 at hl1 hM h1 ⊢
  generalize rdS s l 2 = s1 at h1 ⊢
  clear e2
  have hMb : M ≤ 1000000 := by rw [hM]; split <;> omega
  have hTl := rdT_len s1 l1 M
  obtain ⟨n, hn⟩ : ∃ n, (rdT s1 l1 M).length = n := ⟨_, rfl⟩
  have HNN := Lib.hid hn
  rw [hn] at hTl
  clear hn
  by_cases hbig : 1000 < N
  · rw [if_pos hbig] at hM
    have HM := Lib.hid hM
    clear hM
    go_enter Tryd.func78, Tryd.ntmps78
    go_wp2_with fail
    refine h1.mono ?_
    rintro e w1 ⟨rfl, hr1, hg1⟩
    obtain ⟨A0, c0, x0, x1⟩ := hr1.cells
    have hi1 : ((M : Nat) : Int) = (l1.length : Int) + 1 := by have := HM.out; omega
    have ht := take_any g lo hi M l1 s1 _ hr1 hMb
    rw [hi1] at ht
    have hmm : l1.length ≤ 100000 := by omega
    clear hi1
    go_wp2_with fail
    refine ht.mono ?_
    rintro e w2 ⟨A, c, rfl, hs2, hr2, hg2⟩
    rw [HNN.out] at hs2 ⊢
    clear ht
    go_wp2_with fail
    refine (clone_any A n c _ _ _ _ hs2 (by omega)).mono ?_
    rintro e w3 ⟨v, rfl, hown, hb3⟩
    go_wp2
    go_ret
    rw [HNN.out]
    exact ⟨v, rfl, own_wide hown (Nat.le_trans hg1.size hg2.size), hr2.after hb3, only_trans (only_trans hg1 hg2) (only_of_below hb3 _)⟩
  · rw [if_neg hbig] at hM
    subst hM
    go_enter Tryd.func78, Tryd.ntmps78
    go_wp2_with fail
    refine h1.mono ?_
    rintro e w1 ⟨rfl, hr1, hg1⟩
    go_wp2_with fail
    refine (take_any g lo hi M l1 s1 _ hr1 hMb).mono ?_
    rintro e w2 ⟨A, c, rfl, hs2, hr2, hg2⟩
    rw [HNN.out] at hs2 ⊢
    go_wp2_with fail
    refine (clone_any A n c _ _ _ _ hs2 (by omega)).mono ?_
    rintro e w3 ⟨v, rfl, hown, hb3⟩
    go_wp2
    go_ret
    rw [HNN.out]
    exact ⟨v, rfl, own_wide hown (Nat.le_trans hg1.size hg2.size), hr2.after hb3, only_trans (only_trans hg1 hg2) (only_of_below hb3 _)⟩
set_option maxRecDepth 100000 in
theorem rend_any (g lo hi : Nat) (l : List UInt8) (s : Bool) (w : World) (h : Rdr w g lo hi l s) :
    Calls Tryd.prog 80 #[.pointer (some ⟨g, 0, none⟩)] w fun e w' => e = .returned (.int .i64 (endE s l : Nat)) ∧ w = w' := by
  obtain ⟨A0, c0, x0, x1⟩ := h.cells
  unfold endE
  generalize l.length = n at x0 ⊢
  clear h
  cases s with
  | true =>
    go_enter Tryd.func80, Tryd.ntmps80
    go_wp2
    go_ret
    exact ⟨rfl, rfl⟩
  | false =>
    by_cases hn : 0 < n
    · rw [if_pos hn]
      go_enter Tryd.func80, Tryd.ntmps80
      go_wp2
      go_ret
      exact ⟨rfl, rfl⟩
    · rw [if_neg hn]
      go_enter Tryd.func80, Tryd.ntmps80
      go_wp2
      go_ret
      exact ⟨rfl, rfl⟩
end Go.Proofs.YtciolppoanfiaaaDoor
