import Derived.Test.YtciolppoanfiaaaDoorXDecode
import Derived.Deep.RegionLaw
namespace Go.Proofs.YtciolppoanfiaaaDoor
open Go.RowKit

/-- all blocks lie as they lay but those of bytes and of writers -/
def Kt (A B : World) : Prop := A.heap.size ≤ B.heap.size ∧ ∀ (k : Nat) (cs : Array Value) (t : TypeId) (fr : Nat × Nat), A.heap[k]? = some (Obj.cells cs t fr) → t ≠ 5 → t ≠ 73 → B.heap[k]? = A.heap[k]?
theorem Kt.refl (A : World) : Kt A A := ⟨Nat.le_refl _, fun _ _ _ _ _ _ _ => rfl⟩
theorem Kt.trans {A B C : World} (h : Kt A B) (k : Kt B C) : Kt A C := ⟨Nat.le_trans h.1 k.1, fun i cs t fr hi h1 h2 => by have := h.2 i cs t fr hi h1 h2; exact (k.2 i cs t fr (this.trans hi) h1 h2).trans this⟩
theorem Kt.drew (A : World) : Kt A A.drew := ⟨Nat.le_refl _, fun _ _ _ _ _ _ _ => rfl⟩
theorem Kt.alloc (A : World) (o : Obj) : Kt A (A.alloc o) := ⟨by simp, fun k _ _ _ hk _ _ => Below.heap_alloc A o k (Array.getElem?_eq_some_iff.1 hk).1⟩
theorem Kt.below {A B : World} (h : Below A.heap.size A B) : Kt A B := ⟨h.size, fun k _ _ _ hk _ _ => h.block k (Array.getElem?_eq_some_iff.1 hk).1⟩
theorem Kt.own {A B : World} {base n size : Nat} {v : Value} {xs : List Value} (h : A.ownsRow base 5 size v n xs) (hg : A.grownBy B v.ownBlock) : Kt A B := by
  refine ⟨hg.size, fun k cs t fr hk h1 _ => hg.block k (Array.getElem?_eq_some_iff.1 hk).1 fun e => ?_⟩
  rcases h.2 with ⟨rfl, _⟩ | ⟨g, cap, cur, rfl, _, hh, _⟩
  · cases e
  · have e' : k = g := by simpa [Value.ownBlock] using e
    subst e'
    rw [hh] at hk
    cases hk
    exact h1 rfl
theorem Kt.set {A : World} {g : Nat} {cs : Array Value} (h : Blk A g 73 cs) (i : Nat) (u : Value) : Kt A (A.setCell ⟨g, i, none⟩ u) := by
  refine ⟨by simp, fun k cs' t fr hk _ h2 => Below.heap_setCell A _ u k fun e => ?_⟩
  have e' : k = g := e
  subst e'
  unfold Blk at h
  rw [h] at hk
  cases hk
  exact h2 rfl
theorem Blk.kt {A B : World} {g : Nat} {t : TypeId} {cs : Array Value} (h : Blk A g t cs) (hk : Kt A B) (h1 : t ≠ 5) (h2 : t ≠ 73) : Blk B g t cs := (hk.2 g cs t (0, 0) h h1 h2).trans h

set_option maxRecDepth 100000 in
set_option maxHeartbeats 1600000 in
theorem wnum2_any (g n N size : Nat) (v : Value) (xs : List Value) (w : World) (hb : Blk w g 73 #[v]) (hown : w.ownsRow (g + 1) 5 1 v n xs)
    (hs : 1 ≤ size) (hs8 : size ≤ 8) (hn : n + size ≤ 1000000) :
    Calls Tryd.prog 46 #[.pointer (some ⟨g, 0, none⟩), .int .u64 (N : Int), .int .i64 (size : Int)] w fun e w' =>
      e = .returned (.tuple #[]) ∧ ∃ v', Blk w' g 73 #[v'] ∧ w'.ownsRow (g + 1) 5 1 v' (n + size) (xs ++ (num N size).map bv) ∧ Below g w w' ∧ Kt w w' := by
  obtain ⟨i0, hi0, hz0, hz1, hz2⟩ := info_parts u8_info
  have t1 : decide ((size : Int) < 1) = false := by simp; omega
  have t2 : decide ((8 : Int) < size) = false := by simp; omega
  go_enter Tryd.func46, Tryd.ntmps46
  go_wp2
  go_loopw [14] (fun i wr => ∃ k : Nat, k ≤ size ∧ i = .int .i64 k ∧ ∃ v', Blk wr g 73 #[v'] ∧ wr.ownsRow (g + 1) 5 1 v' (n + k) (xs ++ (num N k).map bv) ∧ Below g w wr ∧ Kt w wr) (fun i _ => size - (intOf i).toNat)
  case atStart => exact ⟨0, Nat.zero_le _, rfl, v, hb, by simpa [num] using hown, Below.refl _ _, Kt.refl _⟩
  case round =>
    obtain ⟨k, hk, rfl, v', hbr, hownr, hbel, hkt⟩ := hrel
    clear hb hown t1 t2
    by_cases hlt : k < size
    · have hbsz := hbr.lt
      have h8 : IntKind.i64.wrap (8 * (k : Int)) = ((8 * k : Nat) : Int) := by rw [IntKind.wrap_i64]; omega
      have hc := hbr.cell 0
      have hf := hbr.frozen 0
      simp only [List.getElem?_toArray, List.getElem?_cons_zero] at hc
      obtain ⟨b, hbd⟩ : ∃ b, UInt8.ofNat (N >>> (8 * k)) = b := ⟨_, rfl⟩
      have hv8 : IntKind.u8.wrap ((N : Int) / 2 ^ (8 * (k : Int)).toNat) = (b.toNat : Int) := by
        rw [IntKind.wrap_u8', show (8 * (k : Int)).toNat = 8 * k by omega, shr_byte, hbd]
      have Hbd := Lib.hid hbd
      clear hbd
      go_wp2
      go_region_law (refine step_app _ rfl (.tmp 21) (.tmp 27) 22 rfl (g + 1) 5 i0 _ 1 1 Tryd.underlying22 hi0 hz0 hz1 hz2 rfl (by omega) v' (n + k) _ (by simp [Act.eval]) (hownr.alloc _) wr.heap.size (wr.heap.size + 1) (some ⟨wr.heap.size, 0, none⟩) 1 1 [bv b] (by simp [Act.eval]) (by first | exact sl_one _ _ _ | exact (sl_one _ _ _).drew) (one_bv b) (by simp only [maxLen]; omega) (by omega) (by simp; omega) ?_; intro v2 w2 hown2 hg2 hat2; obtain ⟨A2, c2, rfl, _⟩ := own_sl hown2; have hbr2 : Blk w2 g 73 #[v'] := Blk.grown (by first | exact hbr.alloc _ | exact (hbr.alloc _).drew) hg2 (own_off hownr (Nat.lt_succ_self g)); have hc2 := hbr2.cell 0; have hf2 := hbr2.frozen 0; simp only [List.getElem?_toArray, List.getElem?_cons_zero] at hc2)
      go_wp2
      all_goals
        go_roundw
        case rel =>
          have hsz2 : g + 1 ≤ (wr.alloc (Obj.cells #[Value.int IntKind.u8 ↑b.toNat] 5)).drew.heap.size := by simp; omega
          refine ⟨k + 1, by omega, by go_num, _, by simpa using hbr2.set_ 0 _, ?_, ?_, ?_⟩
          · have := own_set hown2 (Nat.lt_succ_self g) 0 (Value.slice A2 (n + k + 1) c2)
            rw [List.append_assoc] at this
            simpa [num, Hbd.out, Nat.add_assoc] using this
          · have h1 : Below g w (wr.alloc (Obj.cells #[Value.int IntKind.u8 ↑b.toNat] 5)).drew := (hbel.alloc (by omega) _).drew
            exact (h1.grown hg2 (by omega) (fun q e => by have := (hownr.lt q e).1; omega)).setCell (Nat.le_refl _) _
          · have hk2 : Kt wr w2 := by
              first
                | exact (Kt.alloc wr _).trans (Kt.own (hownr.alloc _) hg2)
                | exact ((Kt.alloc wr _).trans (Kt.drew _)).trans (Kt.own (hownr.alloc _).drew hg2)
            exact (hkt.trans hk2).trans (Kt.set hbr2 _ _)
        case measure => simp [intOf]; omega
    · go_wp2
      have hks : k = size := by omega
      subst hks
      go_end0
      exact ⟨rfl, v', hbr, hownr, hbel, hkt⟩
set_option maxRecDepth 100000 in
set_option maxHeartbeats 1600000 in
theorem wbytes2_any (g n : Nat) (v u : Value) (xs : List Value) (l : List UInt8) (w : World) (hb : Blk w g 73 #[v]) (hown : w.ownsRow (g + 1) 5 1 v n xs)
    {lo hi : Nat} (hu : BytesIn w lo hi u l) (hig : hi ≤ g) (hl : l.length ≤ 1000) (hn : n + l.length + 2 ≤ 1000000) :
    Calls Tryd.prog 60 #[.pointer (some ⟨g, 0, none⟩), u] w fun e w' =>
      e = .returned (.tuple #[]) ∧ ∃ v', Blk w' g 73 #[v'] ∧ w'.ownsRow (g + 1) 5 1 v' (n + (l.length + 2)) (xs ++ (bytesF l).map bv) ∧ Below g w w' ∧ Kt w w' := by
  obtain ⟨i0, hi0, hz0, hz1, hz2⟩ := info_parts u8_info
  obtain ⟨A, c, rfl, hs⟩ := hu
  have hF : (bytesF l).map bv = (num l.length 2).map bv ++ l.map bv := by simp [bytesF]
  rw [hF]
  have hcap := hs.cap
  have hmax := hs.max
  clear hF
  obtain ⟨m, hm⟩ : ∃ m, l.length = m := ⟨_, rfl⟩
  rw [hm] at hs hl hn hcap ⊢
  clear hm
  have hmin := run_min_lit (P := Tryd.prog) #[3, 3] 3 m hl
  obtain ⟨A1, hA1, hcut⟩ := cut_h 22 5 i0 Tryd.underlying22 hi0 A m c (m : Int) m (by omega) (by omega) (by omega)
  have hs1 : Sl w lo hi 1 A1 m c (l.map bv) := ⟨hs.len, hs.cap, hs.max, fun h => by rw [hA1 h]; exact hs.at_ h⟩
  clear hs hA1
  have hbg := hb.lt
  go_enter Tryd.func60, Tryd.ntmps60
  go_wp2_with fail
  refine (wnum2_any g n m 2 v xs _ hb hown (by omega) (by omega) (by omega)).mono ?_
  rintro e w1 ⟨rfl, v1, hb1, hown1, hbel1, hkt1⟩
  have x0 := hb1.cell 0
  have xf := hb1.frozen 0
  simp only [List.getElem?_toArray, List.getElem?_cons_zero] at x0
  have hs2 := hs1.below hbel1 hig
  obtain ⟨A2, c2, rfl, -⟩ := own_sl hown1
  have hb1l := hb1.lt
  go_wp2_with (at_builtin; refine wpList_app _ rfl (.tmp 18) (.tmp 19) 22 rfl (g + 1) 5 i0 _ 1 1 Tryd.underlying22 hi0 hz0 hz1 hz2 rfl (by omega) (.slice A2 (n + 2) c2) (n + 2) _ rfl hown1 lo hi A1 m c (l.map bv) rfl hs2 (bv_one _) (by simp only [maxLen]; omega) (by omega) (by omega) ?_; intro v2 w2 hown2 hg2 hat2; have hbr2 : Blk w2 g 73 #[.slice A2 (n + 2) c2] := hb1.grown hg2 (own_off hown1 (Nat.lt_succ_self g)); have hf2 := hbr2.frozen 0; have hx2 := hbr2.cell 0; simp only [List.getElem?_toArray, List.getElem?_cons_zero] at hx2; obtain ⟨A3, c3, rfl, -⟩ := own_sl hown2)
  go_end0
  refine ⟨rfl, _, by simpa using hbr2.set_ 0 _, ?_, ?_, (hkt1.trans (Kt.own hown1 hg2)).trans (Kt.set hbr2 _ _)⟩
  · have := own_set hown2 (Nat.lt_succ_self g) 0 (Value.slice A3 (n + 2 + m) c3)
    rw [show n + (m + 2) = n + 2 + m by omega, ← List.append_assoc]
    exact this
  · exact (hbel1.grown hg2 (by omega) (fun q e => by have := (hown1.lt q e).1; omega)).setCell (Nat.le_refl _) _
end Go.Proofs.YtciolppoanfiaaaDoor
