/- The document's reader: Number, Bytes, End, by the same plain states as the module's reader. -/
import Derived.Test.YtciolppoanfiaaaDoorXRead
import Derived.Test.YtciolppoanfiaaaDoorWRefOf
import Derived.Test.YtciolppoanfiaaaDoorPWire
import Derived.Deep.QuietTactic
import Derived.BigQuiet
namespace Go.Proofs.YtciolppoanfiaaaDoor
open Go.RowKit

section
variable {P : Program}
/-- b[x:y] of bytes: one equation for the walk -/
theorem bytes_cut2 (t e : TypeId) (i : TypeInfo) (hi : P.info? e = some i) (ht : P.underlying t = some (.slice e)) (hs : i.size = 1) (A : Option Addr) (m c x y n k : Nat) (h1 : x ≤ y) (h2 : y ≤ c) (hn : y - x = n) (hk : c - x = k) :
    ∃ A', (0 < n → A' = A.map (·.add x)) ∧ ∀ W, (Instr.sliceAt t (.slice A m c) (some (.int .i64 (x : Int))) (some (.int .i64 (y : Int))) none).run P W = .ok (.slice A' n k) W := by
  have he : P.elem t = e := by simp [Program.elem, ht]
  have ht' : P.underlying t = some (.slice (P.elem t)) := by rw [he]; exact ht
  refine ⟨if c = x then A else A.map (·.add x), fun hp => by rw [if_neg (by omega)], fun W => ?_⟩
  rw [run_sliceAt_slice W t _ _ _ _ ht', run_slice_lh W t A m c ht' .i64 .i64 (x : Int) (y : Int) (by omega) (by omega) (by omega), he]
  simp [sizeOf, typeInfo, hi, hs, sliced, hn, hk]
end
theorem of_quiet {v : Value} {l : List UInt8} (w : World) (ha : Bytes w v l) (hl : l.length ≤ 8) :
    Calls Tryd.prog 53 #[v] w fun e w' => e = .returned (.int .u64 (le l : Nat)) ∧ ∃ q, w' = w.drewN q :=
  (of_any w ha hl).mono fun _ _ ⟨h1, h2⟩ => ⟨h1, 0, h2 ▸ rfl⟩
/-- the document's reader at g: it reads B, which lies below hi; its state is s -/
structure RRef (w : World) (g hi n : Nat) (A : Option Addr) (c : Nat) (B : List UInt8) (s : RdSt) : Prop where
  len : B.length = n
  data : Sl w 0 hi 1 A n c (B.map bv)
  out : hi ≤ g
  blk : ∃ at' : Nat, at' ≤ n ∧ Blk w g 111 #[.slice A n c, .int .i64 (at' : Int), .bool s.2] ∧ (s.2 = false → s.1 = B.drop at')
theorem RRef.shut {w : World} {g hi n c : Nat} {A : Option Addr} {B : List UInt8} {s : RdSt} (h : RRef w g hi n A c B s) (s' : RdSt) (hs : s'.2 = true) : RRef (w.setCell ⟨g, 2, none⟩ (.bool true)) g hi n A c B s' := by
  obtain ⟨h1, h2, h3, a, h4, h5, -⟩ := h
  refine ⟨h1, h2.setCell (.inr h3) _, h3, a, h4, ?_, fun e => by rw [hs] at e; cases e⟩
  rw [hs]
  simpa using h5.set_ 2 (.bool true)
theorem RRef.drewN {w : World} {g hi n c : Nat} {A : Option Addr} {B : List UInt8} {s : RdSt} (h : RRef w g hi n A c B s) (q : Nat) : RRef (w.drewN q) g hi n A c B s := by
  obtain ⟨h1, h2, h3, a, h4, h5, h6⟩ := h
  exact ⟨h1, h2.drewN q, h3, a, h4, h5.drewN q, h6⟩
theorem grown_drewN {w w' : World} {r : Option Nat} (h : w.grownBy w' r) (q : Nat) : w.grownBy (w'.drewN q) r := ⟨h.os, h.tape, h.output, h.size, h.block⟩
theorem RRef.on {w : World} {g hi n c : Nat} {A : Option Addr} {B : List UInt8} {s : RdSt} {a : Nat} (h1 : B.length = n) (h2 : Sl w 0 hi 1 A n c (B.map bv)) (h3 : hi ≤ g) (h5 : Blk w g 111 #[.slice A n c, .int .i64 (a : Int), .bool false]) (b : Nat) (hb : b ≤ n) (hs2 : s.2 = false) (hs1 : s.1 = B.drop b) :
    RRef (w.setCell ⟨g, 1, none⟩ (.int .i64 (b : Int))) g hi n A c B s := by
  refine ⟨h1, h2.setCell (.inr h3) _, h3, b, hb, ?_, fun _ => hs1⟩
  rw [hs2]
  simpa using h5.set_ 1 (.int .i64 (b : Int))
set_option maxRecDepth 100000 in
set_option maxHeartbeats 1600000 in
theorem qnum_any (g hi n c : Nat) (A : Option Addr) (B : List UInt8) (s : RdSt) (z : Nat) (w : World) (h : RRef w g hi n A c B s) (hz1 : 1 ≤ z) (hz8 : z ≤ 8) (hn : n ≤ 100000) :
    Calls Tryd.prog 82 #[.pointer (some ⟨g, 0, none⟩), .int .i64 (z : Int)] w fun e w' =>
      e = .returned (.int .u64 (rdV z s : Nat)) ∧ RRef w' g hi n A c B (rdN z s) ∧ w.grownBy w' (some g) := by
  have h0 := h
  obtain ⟨l, b⟩ := s
  obtain ⟨hlen, hs, hg, a, ha, hb, hd⟩ := h
  have hcap := hs.cap
  have hmax := hs.max
  have c3 := hb.c3
  obtain ⟨x0, x1, x2⟩ := c3
  have f1 := hb.frozen 1
  have f2 := hb.frozen 2
  have k1 : decide ((z : Int) < 1) = false := decide_eq_false (by omega)
  have k2 : decide ((8 : Int) < (z : Int)) = false := decide_eq_false (by omega)
  have kw : IntKind.i64.wrap ((a : Int) + (z : Int)) = ((a + z : Nat) : Int) := by rw [IntKind.wrap_i64]; omega
  cases b with
  | true =>
    have hv : rdV z (l, true) = 0 := by simp [rdV, rdT, rdS, le]
    have hS : rdS true l z = true := rfl
    have FIN : Hid (∀ q, RRef ((w.drewN q).setCell ⟨g, 2, none⟩ (.bool true)) g hi n A c B (rdN z (l, true)) ∧ w.grownBy ((w.drewN q).setCell ⟨g, 2, none⟩ (.bool true)) (some g)) := fun q => ⟨(h0.drewN q).shut _ (by simp [rdN, hS]), only_setCell (grown_drewN (World.grownBy.refl w _) q) _ _⟩
    rw [hv]
    clear h0 hs hb hd
    go_enter Tryd.func82, Tryd.ntmps82
    go_wp2
    go_quiet (fail)
    go_wp2
    go_ret
    exact ⟨rfl, FIN.out _⟩
  | false =>
    have hl := hd rfl
    simp only at hl
    have hll : l.length = n - a := by rw [hl, List.length_drop]; omega
    by_cases hlt : n < a + z
    · have hS : rdS false l z = true := by simp [rdS]; omega
      have hv : rdV z (l, false) = 0 := by simp [rdV, rdT, hS, le]
      have FIN : Hid (∀ q, RRef ((w.drewN q).setCell ⟨g, 2, none⟩ (.bool true)) g hi n A c B (rdN z (l, false)) ∧ w.grownBy ((w.drewN q).setCell ⟨g, 2, none⟩ (.bool true)) (some g)) := fun q => ⟨(h0.drewN q).shut _ (by simp [rdN, hS]), only_setCell (grown_drewN (World.grownBy.refl w _) q) _ _⟩
      rw [hv]
      have k3 : decide ((n : Int) < ((a + z : Nat) : Int)) = true := decide_eq_true (by omega)
      clear h0 hs hb hd hl hll
      go_enter Tryd.func82, Tryd.ntmps82
      go_wp2
      go_quiet (fail)
      go_wp2
      go_ret
      exact ⟨rfl, FIN.out _⟩
    · obtain ⟨b, hbz⟩ : ∃ b, a + z = b := ⟨_, rfl⟩
      rw [hbz] at kw hlt
      have hS : rdS false l z = false := by simp [rdS]; omega
      have hT : rdT false l z = (B.drop a).take z := by rw [← hl]; simp [rdT, hS]
      have hL : rdL false l z = B.drop b := by simp [rdL, hS]; rw [hl, List.drop_drop, hbz]
      obtain ⟨i0, hi0, hz0, hz1', hz2⟩ := info_parts u8_info
      obtain ⟨A2, hA2, hcut⟩ := bytes_cut2 22 5 i0 hi0 Tryd.underlying22 hz1' A n c a b z (c - a) (by omega) (by omega) (by omega) rfl
      have sT := hs.subB (k := a) (m := z) (c' := c - a) (A' := A2) (by omega) (by omega) (by omega) hA2
      have FIN : Hid (∀ q, RRef ((w.drewN q).setCell ⟨g, 1, none⟩ (.int .i64 (b : Int))) g hi n A c B (rdN z (l, false)) ∧ w.grownBy ((w.drewN q).setCell ⟨g, 1, none⟩ (.int .i64 (b : Int))) (some g) ∧ Bytes ((w.drewN q).setCell ⟨g, 1, none⟩ (.int .i64 (b : Int))) (.slice A2 z (c - a)) ((B.drop a).take z)
          ∧ Blk ((w.drewN q).setCell ⟨g, 1, none⟩ (.int .i64 (b : Int))) g 111 #[.slice A n c, .int .i64 (b : Int), .bool false]) := fun q =>
        ⟨RRef.on hlen (hs.drewN q) hg (hb.drewN q) b (by omega) (by simp [rdN, hS]) (by simp [rdN, hL]), only_setCell (grown_drewN (World.grownBy.refl w _) q) _ _, ((sT.drewN q).setCell (.inr hg) _).bytes, by simpa using (hb.drewN q).set_ 1 (.int .i64 (b : Int))⟩
      have hv : rdV z (l, false) = le ((B.drop a).take z) := by simp [rdV, hT]
      have kw2 : IntKind.i64.wrap ((b : Int) - (z : Int)) = (a : Int) := by rw [IntKind.wrap_i64]; omega
      have k3 : decide ((n : Int) < (b : Int)) = false := decide_eq_false (by omega)
      rw [hv]
      clear h0 hs hb hd hl hll hT hL sT hA2 hS hbz
      go_enter Tryd.func82, Tryd.ntmps82
      go_wp2
      go_quiet (fail)
      go_wp2
      obtain ⟨F1, F2, F3, F4⟩ := FIN.out nq
      clear FIN x0 x1 x2 f1 f2
      generalize (w.drewN nq).setCell ⟨g, 1, none⟩ (.int .i64 (b : Int)) = W5 at F1 F2 F3 F4 ⊢
      obtain ⟨y0, y1, y2⟩ := F4.c3
      have G1 := Lib.hid F1
      have G2 := Lib.hid F2
      have G3 := Lib.hid F3
      clear F1 F2 F3 F4 k1 k2 k3 kw
      have HLE : Hid (((B.drop a).take z).length ≤ 8) := by show _ ≤ _; simp; omega
      go_quiet ((go_at_call 53; exact Calls.quiet_of (of_quiet _ (G3.out.drewN _) HLE.out)))
      go_wp2
      go_ret
      exact ⟨rfl, G1.out.drewN _, grown_drewN G2.out _⟩
end Go.Proofs.YtciolppoanfiaaaDoor
