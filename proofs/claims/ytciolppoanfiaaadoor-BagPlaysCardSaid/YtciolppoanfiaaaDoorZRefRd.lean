import Derived.Test.YtciolppoanfiaaaDoorZRead
import Derived.Test.YtciolppoanfiaaaDoorWRefOf
import Derived.Test.YtciolppoanfiaaaDoorPWire
import Derived.Deep.QuietTactic
import Derived.BigQuiet
import Derived.Test.YtciolppoanfiaaaDoorPWire2
/- The document's reader: Number, Bytes, End, by the same plain states as the module's reader. -/
namespace Go.Proofs.YtciolppoanfiaaaDoor
open Go.RowKit

section
variable {P : Program}
/-- b[x:y] of bytes: one equation for the walk -/
theorem bytes_cut2 (t e : TypeId) (i : TypeInfo) (hi : P.info? e = some i) (ht : P.underlying t = some (.slice e)) (hs : i.size = 1) (A : Option Addr) (m c x y n k : Nat) (h1 : x ≤ y) (h2 : y ≤ c) (hn : y - x = n) (hk : c - x = k) :
    ∃ A', (0 < n → A' = A.map (·.add x)) ∧ ∀ W, (Instr.sliceAt t (.slice A m c) (some (.int .i64 (x : Int))) (some (.int .i64 (y : Int))) none).run P W = .ok (.slice A' n k) W := by
  have he : P.elem t = e := by simp [Program.elem, ht]
  have ht' : P.underlying t = some (.slice (P.elem t)) := by rw [he]; exact ht
  refine ⟨if c = x then A else A.map (·.add x), fun hp => by rw [if_neg (by omega)], fun W => ?_⟩
  rw [run_sliceAt_slice W t _ _ _ _ ht', run_slice_lh W t A m c ht' .i64 .i64 (x : Int) (y : Int) (by omega) (by omega) (by omega), he]
  simp [sizeOf, typeInfo, hi, hs, sliced, hn, hk]
end
theorem of_quiet {v : Value} {l : List UInt8} (w : World) (ha : Bytes w v l) (hl : l.length ≤ 8) :
    Calls Tryd.prog 53 #[v] w fun e w' => e = .returned (.int .u64 (le l : Nat)) ∧ ∃ q, w' = w.drewN q :=
  (of_any w ha hl).mono fun _ _ ⟨h1, h2⟩ => ⟨h1, 0, h2 ▸ rfl⟩
/-- the document's reader at g: it reads B, which lies below hi; its state is s -/
structure RRef (w : World) (g hi n : Nat) (A : Option Addr) (c : Nat) (B : List UInt8) (s : RdSt) : Prop where
  len : B.length = n
  data : Sl w 0 hi 1 A n c (B.map bv)
  out : hi ≤ g
  blk : ∃ at' : Nat, at' ≤ n ∧ Blk w g 111 #[.slice A n c, .int .i64 (at' : Int), .bool s.2] ∧ (s.2 = false → s.1 = B.drop at')
theorem RRef.shut {w : World} {g hi n c : Nat} {A : Option Addr} {B : List UInt8} {s : RdSt} (h : RRef w g hi n A c B s) (s' : RdSt) (hs : s'.2 = true) : RRef (w.setCell ⟨g, 2, none⟩ (.bool true)) g hi n A c B s' := by
  obtain ⟨h1, h2, h3, a, h4, h5, -⟩ := h
  refine ⟨h1, h2.setCell (.inr h3) _, h3, a, h4, ?_, fun e => by rw [hs] at e; cases e⟩
  rw [hs]
  simpa using h5.set_ 2 (.bool true)
theorem RRef.drewN {w : World} {g hi n c : Nat} {A : Option Addr} {B : List UInt8} {s : RdSt} (h : RRef w g hi n A c B s) (q : Nat) : RRef (w.drewN q) g hi n A c B s := by
  obtain ⟨h1, h2, h3, a, h4, h5, h6⟩ := h
  exact ⟨h1, h2.drewN q, h3, a, h4, h5.drewN q, h6⟩
theorem grown_drewN {w w' : World} {r : Option Nat} (h : w.grownBy w' r) (q : Nat) : w.grownBy (w'.drewN q) r := ⟨h.os, h.tape, h.output, h.size, h.block⟩
theorem RRef.on {w : World} {g hi n c : Nat} {A : Option Addr} {B : List UInt8} {s : RdSt} {a : Nat} (h1 : B.length = n) (h2 : Sl w 0 hi 1 A n c (B.map bv)) (h3 : hi ≤ g) (h5 : Blk w g 111 #[.slice A n c, .int .i64 (a : Int), .bool false]) (b : Nat) (hb : b ≤ n) (hs2 : s.2 = false) (hs1 : s.1 = B.drop b) :
    RRef (w.setCell ⟨g, 1, none⟩ (.int .i64 (b : Int))) g hi n A c B s := by
  refine ⟨h1, h2.setCell (.inr h3) _, h3, b, hb, ?_, fun _ => hs1⟩
  rw [hs2]
  simpa using h5.set_ 1 (.int .i64 (b : Int))
set_option maxRecDepth 100000 in
set_option maxHeartbeats 1600000 in
theorem qnum_any (g hi n c : Nat) (A : Option Addr) (B : List UInt8) (s : RdSt) (z : Nat) (w : World) (h : RRef w g hi n A c B s) (hz1 : 1 ≤ z) (hz8 : z ≤ 8) (hn : n ≤ 100000) :
    Calls Tryd.prog 82 #[.pointer (some ⟨g, 0, none⟩), .int .i64 (z : Int)] w fun e w' =>
      e = .returned (.int .u64 (rdV z s : Nat)) ∧ RRef w' g hi n A c B (rdN z s) ∧ w.grownBy w' (some g) := by
  have h0 := h
  obtain ⟨l, b⟩ := s
  obtain ⟨hlen, hs, hg, a, ha, hb, hd⟩ := h
  have hcap := hs.cap
  have hmax := hs.max
  have c3 := hb.c3
  obtain ⟨x0, x1, x2⟩ := c3
  have f1 := hb.frozen 1
  have f2 := hb.frozen 2
  have k1 : decide ((z : Int) < 1) = false := decide_eq_false (by omega)
  have k2 : decide ((8 : Int) < (z : Int)) = false := decide_eq_false (by omega)
  have kw : IntKind.i64.wrap ((a : Int) + (z : Int)) = ((a + z : Nat) : Int) := by rw [IntKind.wrap_i64]; omega
  cases b with
  | true =>
    have hv : rdV z (l, true) = 0 := by simp [rdV, rdT, rdS, le]
    have hS : rdS true l z = true := rfl
    have FIN : Hid (∀ q, RRef ((w.drewN q).setCell ⟨g, 2, none⟩ (.bool true)) g hi n A c B (rdN z (l, true)) ∧ w.grownBy ((w.drewN q).setCell ⟨g, 2, none⟩ (.bool true)) (some g)) := fun q => ⟨(h0.drewN q).shut _ (by simp [rdN, hS]), only_setCell (grown_drewN (World.grownBy.refl w _) q) _ _⟩
    rw [hv]
    clear h0 hs hb hd
    go_enter Tryd.func82, Tryd.ntmps82
    go_wp2
    go_quiet (fail)
    go_wp2
    go_ret
    exact ⟨rfl, FIN.out _⟩
  | false =>
    have hl := hd rfl
    simp only at hl
    have hll : l.length = n - a := by rw [hl, List.length_drop]; omega
    by_cases hlt : n < a + z
    · have hS : rdS false l z = true := by simp [rdS]; omega
      have hv : rdV z (l, false) = 0 := by simp [rdV, rdT, hS, le]
      have FIN : Hid (∀ q, RRef ((w.drewN q).setCell ⟨g, 2, none⟩ (.bool true)) g hi n A c B (rdN z (l, false)) ∧ w.grownBy ((w.drewN q).setCell ⟨g, 2, none⟩ (.bool true)) (some g)) := fun q => ⟨(h0.drewN q).shut _ (by simp [rdN, hS]), only_setCell (grown_drewN (World.grownBy.refl w _) q) _ _⟩
      rw [hv]
      have k3 : decide ((n : Int) < ((a + z : Nat) : Int)) = true := decide_eq_true (by omega)
      clear h0 hs hb hd hl hll
      go_enter Tryd.func82, Tryd.ntmps82
      go_wp2
      go_quiet (fail)
      go_wp2
      go_ret
      exact ⟨rfl, FIN.out _⟩
    · obtain ⟨b, hbz⟩ : ∃ b, a + z = b := ⟨_, rfl⟩
      rw [hbz] at kw hlt
      have hS : rdS false l z = false := by simp [rdS]; omega
      have hT : rdT false l z = (B.drop a).take z := by rw [← hl]; simp [rdT, hS]
      have hL : rdL false l z = B.drop b := by simp [rdL, hS]; rw [hl, List.drop_drop, hbz]
      obtain ⟨i0, hi0, hz0, hz1', hz2⟩ := info_parts u8_info
      obtain ⟨A2, hA2, hcut⟩ := bytes_cut2 22 5 i0 hi0 Tryd.underlying22 hz1' A n c a b z (c - a) (by omega) (by omega) (by omega) rfl
      have sT := hs.subB (k := a) (m := z) (c' := c - a) (A' := A2) (by omega) (by omega) (by omega) hA2
      have FIN : Hid (∀ q, RRef ((w.drewN q).setCell ⟨g, 1, none⟩ (.int .i64 (b : Int))) g hi n A c B (rdN z (l, false)) ∧ w.grownBy ((w.drewN q).setCell ⟨g, 1, none⟩ (.int .i64 (b : Int))) (some g) ∧ Bytes ((w.drewN q).setCell ⟨g, 1, none⟩ (.int .i64 (b : Int))) (.slice A2 z (c - a)) ((B.drop a).take z)
          ∧ Blk ((w.drewN q).setCell ⟨g, 1, none⟩ (.int .i64 (b : Int))) g 111 #[.slice A n c, .int .i64 (b : Int), .bool false]) := fun q =>
        ⟨RRef.on hlen (hs.drewN q) hg (hb.drewN q) b (by omega) (by simp [rdN, hS]) (by simp [rdN, hL]), only_setCell (grown_drewN (World.grownBy.refl w _) q) _ _, ((sT.drewN q).setCell (.inr hg) _).bytes, by simpa using (hb.drewN q).set_ 1 (.int .i64 (b : Int))⟩
      have hv : rdV z (l, false) = le ((B.drop a).take z) := by simp [rdV, hT]
      have kw2 : IntKind.i64.wrap ((b : Int) - (z : Int)) = (a : Int) := by rw [IntKind.wrap_i64]; omega
      have k3 : decide ((n : Int) < (b : Int)) = false := decide_eq_false (by omega)
      rw [hv]
      clear h0 hs hb hd hl hll hT hL sT hA2 hS hbz
      go_enter Tryd.func82, Tryd.ntmps82
      go_wp2
      go_quiet (fail)
      go_wp2
      obtain ⟨F1, F2, F3, F4⟩ := FIN.out nq
      clear FIN x0 x1 x2 f1 f2
      generalize (w.drewN nq).setCell ⟨g, 1, none⟩ (.int .i64 (b : Int)) = W5 at F1 F2 F3 F4 ⊢
      obtain ⟨y0, y1, y2⟩ := F4.c3
      have G1 := Lib.hid F1
      have G2 := Lib.hid F2
      have G3 := Lib.hid F3
      clear F1 F2 F3 F4 k1 k2 k3 kw
      have HLE : Hid (((B.drop a).take z).length ≤ 8) := by show _ ≤ _; simp; omega
      go_quiet ((go_at_call 53; exact Calls.quiet_of (of_quiet _ (G3.out.drewN _) HLE.out)))
      go_wp2
      go_ret
      exact ⟨rfl, G1.out.drewN _, grown_drewN G2.out _⟩
end Go.Proofs.YtciolppoanfiaaaDoor

namespace Go.Proofs.YtciolppoanfiaaaDoor
open Go.RowKit
theorem rdV_lt2 (s : RdSt) : rdV 2 s < 65536 := by
  have := le_bound _ 2 (rdT_len s.2 s.1 2)
  simpa [rdV] using this
theorem rb_shut {s : RdSt} (h : rdS (rdN 2 s).2 (rdN 2 s).1 (rdM s.2 s.1) = true) : rbV s = [] ∧ (rbN s).2 = true := by
  constructor
  · show rdT (rdS s.2 s.1 2) (rdL s.2 s.1 2) (rdM s.2 s.1) = []
    have h' : rdS (rdS s.2 s.1 2) (rdL s.2 s.1 2) (rdM s.2 s.1) = true := h
    unfold rdT
    rw [if_pos h']
  · exact h
theorem rb_go {s : RdSt} (h : rdS (rdN 2 s).2 (rdN 2 s).1 (rdM s.2 s.1) = false) : rbV s = (rdN 2 s).1.take (rdM s.2 s.1) ∧ (rbN s).2 = false ∧ (rbN s).1 = (rdN 2 s).1.drop (rdM s.2 s.1) := by
  refine ⟨?_, h, ?_⟩
  · show rdT (rdS s.2 s.1 2) (rdL s.2 s.1 2) (rdM s.2 s.1) = _
    unfold rdT
    rw [if_neg (by rw [show rdS (rdS s.2 s.1 2) (rdL s.2 s.1 2) (rdM s.2 s.1) = false from h]; simp)]
    rfl
  · show rdL (rdS s.2 s.1 2) (rdL s.2 s.1 2) (rdM s.2 s.1) = _
    unfold rdL
    rw [if_neg (by have h' := h; unfold rdN rdL at h'; simp only at h'; rw [h']; simp)]
    rfl
set_option maxRecDepth 100000 in
set_option maxHeartbeats 1600000 in
theorem qbytes_any (g hi n c : Nat) (A : Option Addr) (B : List UInt8) (s : RdSt) (w : World) (h : RRef w g hi n A c B s) (hn : n ≤ 100000) :
    Calls Tryd.prog 83 #[.pointer (some ⟨g, 0, none⟩)] w fun e w' =>
      ∃ A' c', e = .returned (.slice A' (rbV s).length c') ∧ Sl w' 0 hi 1 A' (rbV s).length c' ((rbV s).map bv) ∧ RRef w' g hi n A c B (rbN s) ∧ w.grownBy w' (some g) := by
  have hV := rdV_lt2 s
  obtain ⟨V, hVd⟩ : ∃ V, rdV 2 s = V := ⟨_, rfl⟩
  rw [hVd] at hV
  have hM : rdM s.2 s.1 = if 1000 < V then (rdN 2 s).1.length + 1 else V := by rw [← hVd]; rfl
  have kc : IntKind.i64.wrap (V : Int) = (V : Int) := by rw [IntKind.wrap_i64]; omega
  have hq := fun w => qnum_any g hi n c A B s 2 w
  rw [hVd] at hq
  have hS := rb_shut (s := s)
  have hGo := rb_go (s := s)
  clear hVd
  generalize rbV s = bv1 at hS hGo ⊢
  generalize rbN s = bn1 at hS hGo ⊢
  generalize rdM s.2 s.1 = M at hS hGo hM
  generalize rdN 2 s = s1 at hq hS hGo hM
  have HQ := Lib.hid hq
  have HS := Lib.hid hS
  have HG := Lib.hid hGo
  have HM := Lib.hid hM
  clear hq hS hGo hM
  go_enter Tryd.func83, Tryd.ntmps83
  go_wp2_with fail
  refine (HQ.out _ h (by omega) (by omega) hn).mono ?_
  rintro e w1 ⟨rfl, R1, G1⟩
  have hS := HS.out
  have hGo := HG.out
  have hM := HM.out
  clear h HQ HS HG HM
  obtain ⟨l, b⟩ := s1
  have R0 := R1
  obtain ⟨hlen, hs, hg, a, ha, hb, hd⟩ := R1
  have hcap := hs.cap
  have hmax := hs.max
  obtain ⟨x0, x1, x2⟩ := hb.c3
  have f1 := hb.frozen 1
  have f2 := hb.frozen 2
  have kw : IntKind.i64.wrap ((a : Int) + (V : Int)) = ((a + V : Nat) : Int) := by rw [IntKind.wrap_i64]; omega
  simp only at hS hGo hM hd
  have hcase : b = true ∨ (b = false ∧ 1000 < V) ∨ (b = false ∧ V ≤ 1000 ∧ n < a + V) ∨ (b = false ∧ V ≤ 1000 ∧ a + V ≤ n) := by
    cases b
    · refine .inr ?_
      rcases Nat.lt_or_ge 1000 V with h | h
      · exact .inl ⟨rfl, h⟩
      · rcases Nat.lt_or_ge n (a + V) with h2 | h2
        · exact .inr (.inl ⟨rfl, h, h2⟩)
        · exact .inr (.inr ⟨rfl, h, h2⟩)
    · exact .inl rfl
  have hll : b = false → l.length = n - a := fun h => by rw [hd h, List.length_drop]; omega
  have hShut : ∀ h : rdS b l M = true, Hid (∀ q, RRef ((w1.drewN q).setCell ⟨g, 2, none⟩ (.bool true)) g hi n A c B bn1 ∧ w.grownBy ((w1.drewN q).setCell ⟨g, 2, none⟩ (.bool true)) (some g) ∧ bv1 = []) := fun h q =>
    ⟨(R0.drewN q).shut _ (hS h).2, only_setCell (grown_drewN G1 q) _ _, (hS h).1⟩
  obtain ⟨bb, hbb⟩ : ∃ bb, a + V = bb := ⟨_, rfl⟩
  rw [hbb] at kw hcase
  rcases hcase with rfl | ⟨rfl, h1⟩ | ⟨rfl, h1, h2⟩ | ⟨rfl, h1, h2⟩
  · have FIN := hShut (by simp [rdS])
    clear hShut hll hS hGo hM hd R0 hs hb kc hbb G1
    go_wp2
    go_quiet (fail)
    go_wp2
    go_ret
    obtain ⟨F1, F2, F3⟩ := FIN.out nq
    rw [F3]
    exact ⟨none, 0, rfl, Sl.nil_ _ _ _ _, F1, F2⟩
  · rw [if_pos h1] at hM
    have FIN := hShut (by simp [rdS, hM])
    have k1 : decide ((1000 : Int) < (V : Int)) = true := decide_eq_true (by omega)
    clear hShut hll hS hGo hM hd R0 hs hb hbb G1
    go_wp2
    go_quiet (fail)
    go_wp2
    go_ret
    obtain ⟨F1, F2, F3⟩ := FIN.out nq
    rw [F3]
    exact ⟨none, 0, rfl, Sl.nil_ _ _ _ _, F1, F2⟩
  · rw [if_neg (by omega)] at hM
    have FIN := hShut (by have := hll rfl; simp [rdS, hM]; omega)
    have k1 : decide ((1000 : Int) < (V : Int)) = false := decide_eq_false (by omega)
    have k2 : decide ((n : Int) < (bb : Int)) = true := decide_eq_true (by omega)
    clear hShut hll hS hGo hM hd R0 hs hb hbb G1
    go_wp2
    go_quiet (fail)
    go_wp2
    go_ret
    obtain ⟨F1, F2, F3⟩ := FIN.out nq
    rw [F3]
    exact ⟨none, 0, rfl, Sl.nil_ _ _ _ _, F1, F2⟩
  · rw [if_neg (by omega)] at hM
    subst hM
    have hdd := hd rfl
    obtain ⟨g1, g2, g3⟩ := hGo (by have := hll rfl; simp [rdS]; omega)
    have k1 : decide ((1000 : Int) < (M : Int)) = false := decide_eq_false (by omega)
    have k2 : decide ((n : Int) < (bb : Int)) = false := decide_eq_false (by omega)
    have kw2 : IntKind.i64.wrap ((bb : Int) - (M : Int)) = (a : Int) := by rw [IntKind.wrap_i64]; omega
    obtain ⟨i0, hi0, hz0, hz1', hz2⟩ := info_parts u8_info
    obtain ⟨A2, hA2, hcut⟩ := bytes_cut2 22 5 i0 hi0 Tryd.underlying22 hz1' A n c a bb M (c - a) (by omega) (by omega) (by omega) rfl
    have sT := hs.subB (k := a) (m := M) (c' := c - a) (A' := A2) (by omega) (by omega) (by omega) hA2
    rw [← hdd, ← g1] at sT
    have hbl : bv1.length = M := by rw [g1]; have := hll rfl; simp; omega
    have FIN : Hid (∀ q, RRef ((w1.drewN q).setCell ⟨g, 1, none⟩ (.int .i64 (bb : Int))) g hi n A c B bn1 ∧ w.grownBy ((w1.drewN q).setCell ⟨g, 1, none⟩ (.int .i64 (bb : Int))) (some g) ∧ Sl ((w1.drewN q).setCell ⟨g, 1, none⟩ (.int .i64 (bb : Int))) 0 hi 1 A2 M (c - a) (bv1.map bv)
        ∧ Blk ((w1.drewN q).setCell ⟨g, 1, none⟩ (.int .i64 (bb : Int))) g 111 #[.slice A n c, .int .i64 (bb : Int), .bool false]) := fun q =>
      ⟨RRef.on hlen (hs.drewN q) hg (hb.drewN q) bb (by omega) g2 (by rw [g3, hdd, List.drop_drop, hbb]), only_setCell (grown_drewN G1 q) _ _, (sT.drewN q).setCell (.inr hg) _, by simpa using (hb.drewN q).set_ 1 (.int .i64 (bb : Int))⟩
    have HBL := Lib.hid hbl
    clear hShut hll hS hGo hd R0 hs hb hbb G1 hdd g1 g2 g3 sT hA2 hbl
    go_wp2
    go_quiet (fail)
    go_wp2
    obtain ⟨F1, F2, F3, F4⟩ := FIN.out nq
    clear FIN x0 x1 x2 f1 f2
    generalize (w1.drewN nq).setCell ⟨g, 1, none⟩ (.int .i64 (bb : Int)) = W5 at F1 F2 F3 F4 ⊢
    obtain ⟨y0, y1, y2⟩ := F4.c3
    have G1 := Lib.hid F1
    have G2 := Lib.hid F2
    have G3 := Lib.hid F3
    clear F1 F2 F3 F4 k1 k2 kw kc
    go_quiet (fail)
    go_wp2
    go_ret
    rw [HBL.out]
    exact ⟨A2, c - a, rfl, G3.out.drewN _, G1.out.drewN _, grown_drewN G2.out _⟩
end Go.Proofs.YtciolppoanfiaaaDoor

/- The document's reader: End; the document's Check. -/
namespace Go.Proofs.YtciolppoanfiaaaDoor
open Go.RowKit
set_option maxRecDepth 100000 in
set_option maxHeartbeats 800000 in
theorem qend_any (g hi n c : Nat) (A : Option Addr) (B : List UInt8) (s : RdSt) (w : World) (h : RRef w g hi n A c B s) :
    Calls Tryd.prog 84 #[.pointer (some ⟨g, 0, none⟩)] w fun e w' => e = .returned (.int .i64 (endE s.2 s.1 : Nat)) ∧ ∃ q, w' = w.drewN q := by
  obtain ⟨l, b⟩ := s
  obtain ⟨hlen, hs, hg, a, ha, hb, hd⟩ := h
  obtain ⟨x0, x1, x2⟩ := hb.c3
  have hcap := hs.cap
  have hmax := hs.max
  cases b with
  | true =>
    have hE : endE true l = 10 := rfl
    simp only
    rw [hE]
    clear hs hb hd hE
    go_enter Tryd.func84, Tryd.ntmps84
    go_wp2
    go_ret
    exact ⟨rfl, 0, rfl⟩
  | false =>
    have hl := hd rfl
    simp only at hl ⊢
    have hll : l.length = n - a := by rw [hl, List.length_drop]; omega
    by_cases hlt : a < n
    · have hE : endE false l = 11 := by unfold endE; rw [if_neg (by simp), if_pos (by omega)]
      have k1 : decide ((a : Int) < (n : Int)) = true := decide_eq_true (by omega)
      rw [hE]
      clear hs hb hd hE hl hll
      go_enter Tryd.func84, Tryd.ntmps84
      go_wp2
      go_quiet (fail)
      go_wp2
      go_ret
      exact ⟨rfl, _, rfl⟩
    · have hE : endE false l = 0 := by unfold endE; rw [if_neg (by simp), if_neg (by omega)]
      have k1 : decide ((a : Int) < (n : Int)) = false := decide_eq_false (by omega)
      rw [hE]
      clear hs hb hd hE hl hll
      go_enter Tryd.func84, Tryd.ntmps84
      go_wp2
      go_quiet (fail)
      go_wp2
      go_ret
      exact ⟨rfl, _, rfl⟩
theorem any_take {α} {p : α → Bool} {l : List α} {j : Nat} {x : α} (hx : l[j]? = some x) (h : ∀ e ∈ l.take j, p e = false) (hp : p x = false) : ∀ e ∈ l.take (j + 1), p e = false := by
  obtain ⟨h1, h2⟩ := List.getElem?_eq_some_iff.1 hx
  intro e he
  rw [List.take_succ_eq_append_getElem h1, List.mem_append, List.mem_singleton] at he
  rcases he with he | rfl
  · exact h e he
  · rw [h2]; exact hp
theorem any_none {α} {p : α → Bool} {l : List α} {j : Nat} (hj : l.length ≤ j) (h : ∀ e ∈ l.take j, p e = false) : l.any p = false := by
  rw [List.take_of_length_le hj] at h
  exact List.any_eq_false.2 fun e he => by simp [h e he]
set_option maxRecDepth 100000 in
set_option maxHeartbeats 4000000 in
theorem qcheck_any (k f t : Int) (te ix pr co : Nat) (ok : Bool) (dA : Option Addr) (dn dc : Nat) (eA : Option Addr) (n ec lo hi : Nat) (es : List Ent) (w : World) (hs : Sl w lo hi 3 eA n ec (ecells es)) (hdn : dn ≤ 9223372036854775807) :
    Calls Tryd.prog 28 #[.agg #[.int .i64 k, .int .i64 f, .int .i64 t, .int .u64 (te : Int), .int .u64 (ix : Int), .int .u64 (pr : Int), .int .u64 (co : Int), .bool ok, .slice dA dn dc, .slice eA n ec]] w fun e w' => e = .returned (.int .i64 (checkF k f t dn es : Nat)) ∧ Below w.heap.size w w' := by
  have hl : es.length = n := by have := hs.len; rw [ecells_len] at this; omega
  have hcap := hs.cap
  have hmax := hs.max
  obtain ⟨E, hE⟩ : ∃ E, checkF k f t dn es = E := ⟨_, rfl⟩
  rw [hE]
  unfold checkF at hE
  rw [hl] at hE
  have s0 := hs.alloc (by decide) (.cells #[.int .i64 k, .int .i64 f, .int .i64 t, .int .u64 (te : Int), .int .u64 (ix : Int), .int .u64 (pr : Int), .int .u64 (co : Int), .bool ok, .slice dA dn dc, .slice eA n ec] 41)
  have B0 := Blk.new w 41 #[.int .i64 k, .int .i64 f, .int .i64 t, .int .u64 (te : Int), .int .u64 (ix : Int), .int .u64 (pr : Int), .int .u64 (co : Int), .bool ok, .slice dA dn dc, .slice eA n ec]
  have D0 := (Below.refl w.heap.size w).alloc (Nat.le_refl _) (.cells #[.int .i64 k, .int .i64 f, .int .i64 t, .int .u64 (te : Int), .int .u64 (ix : Int), .int .u64 (pr : Int), .int .u64 (co : Int), .bool ok, .slice dA dn dc, .slice eA n ec] 41)
  obtain ⟨wb, hwb⟩ : ∃ wb, w.alloc (.cells #[.int .i64 k, .int .i64 f, .int .i64 t, .int .u64 (te : Int), .int .u64 (ix : Int), .int .u64 (pr : Int), .int .u64 (co : Int), .bool ok, .slice dA dn dc, .slice eA n ec] 41) = wb := ⟨_, rfl⟩
  rw [hwb] at s0 B0 D0
  have HWB := Lib.hid hwb
  have HL := Lib.hid hl
  have S0 := Lib.hid s0
  clear hwb hl hs s0
  by_cases h0 : k < 1
  rotate_left
  have q0 : decide (k < (1 : Int)) = false := decide_eq_false (by omega)
  rotate_left
  · have h := h0
    have q0 : decide (k < (1 : Int)) = true := decide_eq_true (by omega)
    rw [if_pos (.inl h)] at hE
    subst hE
    clear S0
    go_enter Tryd.func28, Tryd.ntmps28
    go_upto_region 1 with fail
    rw [HWB.out]
    generalize Value.agg #[.int .i64 k, .int .i64 f, .int .i64 t, .int .u64 (te : Int), .int .u64 (ix : Int), .int .u64 (pr : Int), .int .u64 (co : Int), .bool ok, .slice dA dn dc, .slice eA n ec] = V
    obtain ⟨x0, x1, x2, x3, x4, x5, x6, x7, x8, x9⟩ := B0.c10
    go_wp2
    go_ret
    exact ⟨rfl, D0⟩
  by_cases h1 : 12 < k
  rotate_left
  have q1 : decide ((12 : Int) < k) = false := decide_eq_false (by omega)
  rotate_left
  · have h := h1
    have q1 : decide ((12 : Int) < k) = true := decide_eq_true (by omega)
    rw [if_pos (.inr h)] at hE
    subst hE
    clear S0
    go_enter Tryd.func28, Tryd.ntmps28
    go_upto_region 1 with fail
    rw [HWB.out]
    generalize Value.agg #[.int .i64 k, .int .i64 f, .int .i64 t, .int .u64 (te : Int), .int .u64 (ix : Int), .int .u64 (pr : Int), .int .u64 (co : Int), .bool ok, .slice dA dn dc, .slice eA n ec] = V
    obtain ⟨x0, x1, x2, x3, x4, x5, x6, x7, x8, x9⟩ := B0.c10
    go_wp2
    go_ret
    exact ⟨rfl, D0⟩
  by_cases h2 : f < 0
  rotate_left
  have q2 : decide (f < (0 : Int)) = false := decide_eq_false (by omega)
  rotate_left
  · have h := h2
    have q2 : decide (f < (0 : Int)) = true := decide_eq_true (by omega)
    rw [if_neg (by omega), if_pos (.inl (by omega))] at hE
    subst hE
    clear S0
    go_enter Tryd.func28, Tryd.ntmps28
    go_upto_region 1 with fail
    rw [HWB.out]
    generalize Value.agg #[.int .i64 k, .int .i64 f, .int .i64 t, .int .u64 (te : Int), .int .u64 (ix : Int), .int .u64 (pr : Int), .int .u64 (co : Int), .bool ok, .slice dA dn dc, .slice eA n ec] = V
    obtain ⟨x0, x1, x2, x3, x4, x5, x6, x7, x8, x9⟩ := B0.c10
    go_wp2
    go_ret
    exact ⟨rfl, D0⟩
  by_cases h3 : 15 < f
  rotate_left
  have q3 : decide ((15 : Int) < f) = false := decide_eq_false (by omega)
  rotate_left
  · have h := h3
    have q3 : decide ((15 : Int) < f) = true := decide_eq_true (by omega)
    rw [if_neg (by omega), if_pos (.inl (by omega))] at hE
    subst hE
    clear S0
    go_enter Tryd.func28, Tryd.ntmps28
    go_upto_region 1 with fail
    rw [HWB.out]
    generalize Value.agg #[.int .i64 k, .int .i64 f, .int .i64 t, .int .u64 (te : Int), .int .u64 (ix : Int), .int .u64 (pr : Int), .int .u64 (co : Int), .bool ok, .slice dA dn dc, .slice eA n ec] = V
    obtain ⟨x0, x1, x2, x3, x4, x5, x6, x7, x8, x9⟩ := B0.c10
    go_wp2
    go_ret
    exact ⟨rfl, D0⟩
  by_cases h4 : t < 0
  rotate_left
  have q4 : decide (t < (0 : Int)) = false := decide_eq_false (by omega)
  rotate_left
  · have h := h4
    have q4 : decide (t < (0 : Int)) = true := decide_eq_true (by omega)
    rw [if_neg (by omega), if_pos (.inr (by omega))] at hE
    subst hE
    clear S0
    go_enter Tryd.func28, Tryd.ntmps28
    go_upto_region 1 with fail
    rw [HWB.out]
    generalize Value.agg #[.int .i64 k, .int .i64 f, .int .i64 t, .int .u64 (te : Int), .int .u64 (ix : Int), .int .u64 (pr : Int), .int .u64 (co : Int), .bool ok, .slice dA dn dc, .slice eA n ec] = V
    obtain ⟨x0, x1, x2, x3, x4, x5, x6, x7, x8, x9⟩ := B0.c10
    go_wp2
    go_ret
    exact ⟨rfl, D0⟩
  by_cases h5 : 15 < t
  rotate_left
  have q5 : decide ((15 : Int) < t) = false := decide_eq_false (by omega)
  rotate_left
  · have h := h5
    have q5 : decide ((15 : Int) < t) = true := decide_eq_true (by omega)
    rw [if_neg (by omega), if_pos (.inr (by omega))] at hE
    subst hE
    clear S0
    go_enter Tryd.func28, Tryd.ntmps28
    go_upto_region 1 with fail
    rw [HWB.out]
    generalize Value.agg #[.int .i64 k, .int .i64 f, .int .i64 t, .int .u64 (te : Int), .int .u64 (ix : Int), .int .u64 (pr : Int), .int .u64 (co : Int), .bool ok, .slice dA dn dc, .slice eA n ec] = V
    obtain ⟨x0, x1, x2, x3, x4, x5, x6, x7, x8, x9⟩ := B0.c10
    go_wp2
    go_ret
    exact ⟨rfl, D0⟩
  by_cases h6 : 700 < dn
  rotate_left
  have q6 : decide ((700 : Int) < (dn : Int)) = false := decide_eq_false (by omega)
  rotate_left
  · have h := h6
    have q6 : decide ((700 : Int) < (dn : Int)) = true := decide_eq_true (by omega)
    rw [if_neg (by omega), if_neg (by omega), if_pos (.inl h)] at hE
    subst hE
    clear S0
    go_enter Tryd.func28, Tryd.ntmps28
    go_upto_region 1 with fail
    rw [HWB.out]
    generalize Value.agg #[.int .i64 k, .int .i64 f, .int .i64 t, .int .u64 (te : Int), .int .u64 (ix : Int), .int .u64 (pr : Int), .int .u64 (co : Int), .bool ok, .slice dA dn dc, .slice eA n ec] = V
    obtain ⟨x0, x1, x2, x3, x4, x5, x6, x7, x8, x9⟩ := B0.c10
    go_wp2
    go_ret
    exact ⟨rfl, D0⟩
  by_cases h7 : 8 < n
  rotate_left
  have q7 : decide ((8 : Int) < (n : Int)) = false := decide_eq_false (by omega)
  rotate_left
  · have h := h7
    have q7 : decide ((8 : Int) < (n : Int)) = true := decide_eq_true (by omega)
    rw [if_neg (by omega), if_neg (by omega), if_pos (.inr (.inl h))] at hE
    subst hE
    clear S0
    go_enter Tryd.func28, Tryd.ntmps28
    go_upto_region 1 with fail
    rw [HWB.out]
    generalize Value.agg #[.int .i64 k, .int .i64 f, .int .i64 t, .int .u64 (te : Int), .int .u64 (ix : Int), .int .u64 (pr : Int), .int .u64 (co : Int), .bool ok, .slice dA dn dc, .slice eA n ec] = V
    obtain ⟨x0, x1, x2, x3, x4, x5, x6, x7, x8, x9⟩ := B0.c10
    go_wp2
    go_ret
    exact ⟨rfl, D0⟩
  rw [if_neg (by omega), if_neg (by omega)] at hE
  have HE := Lib.hid hE
  clear hE
  go_enter Tryd.func28, Tryd.ntmps28
  go_upto_region 1 with fail
  rw [HWB.out]
  generalize Value.agg #[.int .i64 k, .int .i64 f, .int .i64 t, .int .u64 (te : Int), .int .u64 (ix : Int), .int .u64 (pr : Int), .int .u64 (co : Int), .bool ok, .slice dA dn dc, .slice eA n ec] = V
  obtain ⟨x0, x1, x2, x3, x4, x5, x6, x7, x8, x9⟩ := B0.c10
  go_wp2
  go_loop [3] (fun i => ∃ j : Nat, j ≤ n ∧ i = .int .i64 j ∧ Hid (∀ e ∈ es.take j, longE e = false)) (fun i => n - (intOf i).toNat)
  case atStart => exact ⟨0, Nat.zero_le _, rfl, fun e he => by simp at he⟩
  case round =>
    obtain ⟨j, hj, rfl, hno⟩ := hrel
    by_cases hlt : j < n
    · obtain ⟨ad, y, rfl, hy, c0, c1, c2⟩ := (S0.out.now (by decide)).ent hlt
      have HY := Lib.hid hy
      clear hy
      by_cases hlong : 24 < y.l.length
      · have k1 : decide ((24 : Int) < (y.l.length : Int)) = true := decide_eq_true (by omega)
        have hE2 : E = 2 := by
          rw [← HE.out, if_pos (.inr (.inr (List.any_eq_true.2 ⟨y, List.mem_of_getElem? HY.out, by simp [longE]; omega⟩)))]
        clear HE
        subst hE2
        go_wp2
        go_ret
        exact ⟨rfl, D0⟩
      · have k1 : decide ((24 : Int) < (y.l.length : Int)) = false := decide_eq_false (by omega)
        go_wp2
        go_round
        case rel => exact ⟨j + 1, by omega, by go_num, any_take HY.out hno.out (by simp [longE]; omega)⟩
        case measure => simp [intOf]; omega
    · have hnl := any_none (p := longE) (j := j) (by rw [HL.out]; omega) hno.out
      have HE2 : Hid ((if es.any strangeE = true then 30 else 0) = E) := by
        show _ = _
        rw [← HE.out, if_neg (show ¬ (700 < dn ∨ 8 < n ∨ es.any longE = true) from by rw [hnl]; simp; omega)]
      clear HE hno
      have HNL := Lib.hid hnl
      clear hnl
      go_wp2
      go_loop [4] (fun i => ∃ j : Nat, j ≤ n ∧ i = .int .i64 j ∧ Hid (∀ e ∈ es.take j, strangeE e = false)) (fun i => n - (intOf i).toNat)
      case atStart => exact ⟨0, Nat.zero_le _, rfl, fun e he => by simp at he⟩
      case round =>
        obtain ⟨j, hj, rfl, hno⟩ := hrel
        by_cases hlt : j < n
        · obtain ⟨ad, y, rfl, hy, c0, c1, c2⟩ := (S0.out.now (by decide)).ent hlt
          have HY := Lib.hid hy
          clear hy
          by_cases hst : y.k < 0 ∨ 255 < y.k
          · have hE2 : E = 30 := by
              rw [← HE2.out, if_pos (List.any_eq_true.2 ⟨y, List.mem_of_getElem? HY.out, by simp [strangeE]; omega⟩)]
            clear HE2
            subst hE2
            by_cases hneg : y.k < 0
            · have k1 : decide (y.k < 0) = true := decide_eq_true hneg
              clear hst
              go_wp2
              go_ret
              exact ⟨rfl, D0⟩
            · have k1 : decide (y.k < 0) = false := decide_eq_false hneg
              have k2 : decide (255 < y.k) = true := decide_eq_true (by omega)
              clear hst
              go_wp2
              go_ret
              exact ⟨rfl, D0⟩
          · have k1 : decide (y.k < 0) = false := decide_eq_false (by omega)
            have k2 : decide (255 < y.k) = false := decide_eq_false (by omega)
            have hss : strangeE y = false := by simp [strangeE]; omega
            have HSS := Lib.hid hss
            clear hst hss
            go_wp2
            go_round
            case rel => exact ⟨j + 1, by omega, by go_num, any_take HY.out hno.out HSS.out⟩
            case measure => simp [intOf]; omega
        · have hnl := any_none (p := strangeE) (j := j) (by rw [HL.out]; omega) hno.out
          have hE2 : E = 0 := by rw [← HE2.out, hnl]; rfl
          clear HE2 hno hnl
          subst hE2
          go_wp2
          go_ret
          exact ⟨rfl, D0⟩
end Go.Proofs.YtciolppoanfiaaaDoor
