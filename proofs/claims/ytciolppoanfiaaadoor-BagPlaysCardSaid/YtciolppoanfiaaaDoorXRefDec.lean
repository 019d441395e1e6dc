/- The document's Decode. -/
import Derived.Test.YtciolppoanfiaaaDoorZRefRd
import Derived.Test.YtciolppoanfiaaaDoorXDecode
namespace Go.Proofs.YtciolppoanfiaaaDoor
open Go.RowKit
theorem RRef.grown {w w' : World} {g hi n c : Nat} {A : Option Addr} {B : List UInt8} {s : RdSt} {row : Option Nat} (h : RRef w g hi n A c B s) (hg : w.grownBy w' row) (hr : ∀ r, row = some r → hi ≤ r ∧ r ≠ g) : RRef w' g hi n A c B s := by
  obtain ⟨h1, h2, h3, a, h4, h5, h6⟩ := h
  exact ⟨h1, h2.grown (by decide) hg (fun r e => Or.inr (hr r e).1), h3, a, h4, h5.grown hg (fun e => (hr g e.symm).2 rfl), h6⟩
theorem RRef.far {w : World} {g hi n c : Nat} {A : Option Addr} {B : List UInt8} {s : RdSt} (h : RRef w g hi n A c B s) {p : Addr} (hp : hi ≤ p.block) (hq : p.block ≠ g) (u : Value) : RRef (w.setCell p u) g hi n A c B s := by
  obtain ⟨h1, h2, h3, a, h4, h5, h6⟩ := h
  exact ⟨h1, h2.setCell (.inr hp) u, h3, a, h4, h5.far (fun e => hq e.symm) u, h6⟩
theorem RRef.alloc {w : World} {g hi n c : Nat} {A : Option Addr} {B : List UInt8} {s : RdSt} (h : RRef w g hi n A c B s) (o : Obj) : RRef (w.alloc o) g hi n A c B s := by
  obtain ⟨h1, h2, h3, a, h4, h5, h6⟩ := h
  exact ⟨h1, h2.alloc (by decide) o, h3, a, h4, h5.alloc o, h6⟩
theorem entN_shut {s : RdSt} (h : s.2 = true) : (entN s).2 = true := by
  obtain ⟨l, b⟩ := s
  simp only at h
  subst h
  simp [entN, rbN, rbS, rdN, rdS]
theorem decE_shut (N : Nat) (s : RdSt) (h : s.2 = true) : (decE N s).2.2 = true := by
  cases N with
  | zero => exact h
  | succ N => rw [decE_stop (entN_shut h)]; exact entN_shut h
theorem own_far {w : World} {base e size n : Nat} {v : Value} {xs : List Value} (h : w.ownsRow base e size v n xs) {g : Nat} (hg : v.ownBlock ≠ some g) (i : Nat) (u : Value) : (w.setCell ⟨g, i, none⟩ u).ownsRow base e size v n xs :=
  h.kept (only_setCell (World.grownBy.refl w (some g)) i u) (.inr hg)
/-- what holds at the head of the loop over the entries -/
def QRel (w : World) (hi n c : Nat) (A : Option Addr) (l : List UInt8) (N : Nat) (s0 : RdSt) (cs : Array Value) (dA : Option Addr) (dc : Nat) (d : List UInt8) (i : Value) (wr : World) : Prop :=
  ∃ (j : Nat) (s : RdSt) (es : List Ent) (eA : Option Addr) (ec : Nat), j ≤ N ∧ i = .int .u64 (j : Int) ∧ es.length ≤ j ∧ RRef wr (w.heap.size + 1) hi n A c l s ∧
    Blk wr (w.heap.size + 1 + 1) 41 (cs.push (.slice eA es.length ec)) ∧
    Blk wr w.heap.size 41 #[.int .i64 0, .int .i64 0, .int .i64 0, .int .u64 0, .int .u64 0, .int .u64 0, .int .u64 0, .bool false, .slice none 0 0, .slice none 0 0] ∧
    Below w.heap.size w wr ∧ wr.ownsRow (w.heap.size + 3) 85 3 (.slice eA es.length ec) es.length (ecells es) ∧
    (∀ x ∈ es, Sl wr 0 hi 1 x.A x.l.length x.c (x.l.map bv)) ∧ Sl wr 0 hi 1 dA d.length dc (d.map bv) ∧ w.heap.size + 3 ≤ wr.heap.size ∧
    (s.2 = false → decE N s0 = (es.map Ent.key ++ (decE (N - j) s).1, (decE (N - j) s).2)) ∧ (s.2 = true → (decE N s0).2.2 = true)
set_option maxRecDepth 100000 in
set_option maxHeartbeats 4000000 in
theorem qdecode_strong {v : Value} {l : List UInt8} (w : World) (hi : Nat) (ha : BytesIn w 0 hi v l) (hhi : hi ≤ w.heap.size) (hl : l.length ≤ 100000) :
    Calls Tryd.prog 62 #[v] w fun e w' => ∃ m : Msg, e = .returned (.tuple #[m.v, .int .i64 (decC l : Nat)]) ∧ m.plain = decM l ∧ IsMsgK hi w' m ∧ Below w.heap.size w w' := by
  obtain ⟨A, c, rfl, hs⟩ := ha
  obtain ⟨n, hn⟩ : ∃ n, l.length = n := ⟨_, rfl⟩
  rw [hn] at hs hl ⊢
  have RC : Blk (w.alloc (.cells #[.int .i64 0, .int .i64 0, .int .i64 0, .int .u64 0, .int .u64 0, .int .u64 0, .int .u64 0, .bool false, .slice none 0 0, .slice none 0 0] 41)) w.heap.size 41 #[.int .i64 0, .int .i64 0, .int .i64 0, .int .u64 0, .int .u64 0, .int .u64 0, .int .u64 0, .bool false, .slice none 0 0, .slice none 0 0] := Blk.new w _ _
  obtain ⟨oM, hoM⟩ : ∃ o, Obj.cells #[.int .i64 0, .int .i64 0, .int .i64 0, .int .u64 0, .int .u64 0, .int .u64 0, .int .u64 0, .bool false, .slice none 0 0, .slice none 0 0] 41 = o := ⟨_, rfl⟩
  have RR : RRef (((w.alloc oM).alloc (.cells #[.slice A n c, .int .i64 0, .bool false] 111)).alloc oM) (w.heap.size + 1) hi n A c l (l, false) := by
    refine RRef.alloc ⟨hn, (hs.alloc (by decide) _).alloc (by decide) _, by omega, 0, Nat.zero_le _, ?_, fun _ => rfl⟩ _
    have := Blk.new (w.alloc oM) 111 #[.slice A n c, .int .i64 0, .bool false]
    rw [alloc_size] at this
    exact this
  have MB : Blk (((w.alloc oM).alloc (.cells #[.slice A n c, .int .i64 0, .bool false] 111)).alloc oM) (w.heap.size + 1 + 1) 41 #[.int .i64 0, .int .i64 0, .int .i64 0, .int .u64 0, .int .u64 0, .int .u64 0, .int .u64 0, .bool false, .slice none 0 0, .slice none 0 0] := by
    have := Blk.new ((w.alloc oM).alloc (.cells #[.slice A n c, .int .i64 0, .bool false] 111)) 41 #[.int .i64 0, .int .i64 0, .int .i64 0, .int .u64 0, .int .u64 0, .int .u64 0, .int .u64 0, .bool false, .slice none 0 0, .slice none 0 0]
    rw [alloc_size, alloc_size, hoM] at this
    exact this
  rw [hoM] at RC
  have RC2 := (RC.alloc (.cells #[.slice A n c, .int .i64 0, .bool false] 111)).alloc oM
  have D0 := ((((Below.refl w.heap.size w).alloc (Nat.le_refl _) oM).alloc (by simp) (.cells #[.slice A n c, .int .i64 0, .bool false] 111)).alloc (by simp; omega) oM)
  rw [← hoM] at RR MB RC2 D0
  clear RC hoM
  go_enter Tryd.func62, Tryd.ntmps62
  go_wp2_with fail
  have hc := qnum_any (w.heap.size + 1) hi n c A l (l, false) 1 _ RR (by omega) (by omega) hl
  obtain ⟨a0, ha0⟩ : ∃ a, rdV 1 (l, false) = a := ⟨_, rfl⟩
  obtain ⟨s1, hs1⟩ : ∃ s, rdN 1 (l, false) = s := ⟨_, rfl⟩
  have hv0 := rdV_lt1 (l, false)
  rw [ha0] at hv0
  have hw0 := wrap_byte hv0
  rw [ha0, hs1] at hc
  have HA0 := Lib.hid ha0
  have HS1 := Lib.hid hs1
  clear ha0 hs1
  refine hc.mono ?_
  clear hc
  rintro e w1 ⟨rfl, R1, G1⟩
  have M1 := MB.grown G1 (fun e => by injection e; omega)
  have C1 := RC2.grown G1 (fun e => by injection e; omega)
  have D1 := below_only D0 G1 (by omega)
  clear RR MB RC2 D0 G1
  have f0 := M1.frozen 0
  obtain ⟨x0, x1, x2, x3, x4, x5, x6, x7, x8, x9⟩ := M1.c10
  go_wp2_with fail
  have M1' := M1.set_ 0 (.int .i64 (a0 : Int))
  have C1' := C1.far (p := ⟨w.heap.size + 1 + 1, 0, none⟩) (by simp; omega) (.int .i64 (a0 : Int))
  have R1' := R1.far (p := ⟨w.heap.size + 1 + 1, 0, none⟩) (by simp; omega) (by simp) (.int .i64 (a0 : Int))
  have D1' := D1.setCell (p := ⟨w.heap.size + 1 + 1, 0, none⟩) (by simp; omega) (.int .i64 (a0 : Int))
  clear f0 x0 x1 x2 x3 x4 x5 x6 x7 x8 x9 R1 M1 C1 D1
  replace M1' : Blk (w1.setCell ⟨w.heap.size + 1 + 1, 0, none⟩ (.int .i64 (a0 : Int))) (w.heap.size + 1 + 1) 41 #[.int .i64 (a0 : Int), .int .i64 0, .int .i64 0, .int .u64 0, .int .u64 0, .int .u64 0, .int .u64 0, .bool false, .slice none 0 0, .slice none 0 0] := M1'
  generalize w1.setCell ⟨w.heap.size + 1 + 1, 0, none⟩ (.int .i64 (a0 : Int)) = u1 at M1' C1' R1' D1' ⊢
  have hc := qnum_any (w.heap.size + 1) hi n c A l s1 1 _ R1' (by omega) (by omega) hl
  obtain ⟨a1, ha1⟩ : ∃ a, rdV 1 s1 = a := ⟨_, rfl⟩
  obtain ⟨s2, hs2⟩ : ∃ s, rdN 1 s1 = s := ⟨_, rfl⟩
  have hv1 := rdV_lt1 s1
  rw [ha1] at hv1
  have hw1 := wrap_byte hv1
  rw [ha1, hs2] at hc
  have HA1 := Lib.hid ha1
  have HS2 := Lib.hid hs2
  clear ha1 hs2
  refine hc.mono ?_
  clear hc
  rintro e w2 ⟨rfl, R2, G2⟩
  have M2 := M1'.grown G2 (fun e => by injection e; omega)
  have C2 := C1'.grown G2 (fun e => by injection e; omega)
  have D2 := below_only D1' G2 (by omega)
  clear R1' M1' C1' D1' G2
  have f0 := M2.frozen 1
  obtain ⟨x0, x1, x2, x3, x4, x5, x6, x7, x8, x9⟩ := M2.c10
  go_wp2_with fail
  have M2' := M2.set_ 1 (.int .i64 (a1 : Int))
  have C2' := C2.far (p := ⟨w.heap.size + 1 + 1, 1, none⟩) (by simp; omega) (.int .i64 (a1 : Int))
  have R2' := R2.far (p := ⟨w.heap.size + 1 + 1, 1, none⟩) (by simp; omega) (by simp) (.int .i64 (a1 : Int))
  have D2' := D2.setCell (p := ⟨w.heap.size + 1 + 1, 1, none⟩) (by simp; omega) (.int .i64 (a1 : Int))
  clear f0 x0 x1 x2 x3 x4 x5 x6 x7 x8 x9 R2 M2 C2 D2
  replace M2' : Blk (w2.setCell ⟨w.heap.size + 1 + 1, 1, none⟩ (.int .i64 (a1 : Int))) (w.heap.size + 1 + 1) 41 #[.int .i64 (a0 : Int), .int .i64 (a1 : Int), .int .i64 0, .int .u64 0, .int .u64 0, .int .u64 0, .int .u64 0, .bool false, .slice none 0 0, .slice none 0 0] := M2'
  generalize w2.setCell ⟨w.heap.size + 1 + 1, 1, none⟩ (.int .i64 (a1 : Int)) = u2 at M2' C2' R2' D2' ⊢
  have hc := qnum_any (w.heap.size + 1) hi n c A l s2 1 _ R2' (by omega) (by omega) hl
  obtain ⟨a2, ha2⟩ : ∃ a, rdV 1 s2 = a := ⟨_, rfl⟩
  obtain ⟨s3, hs3⟩ : ∃ s, rdN 1 s2 = s := ⟨_, rfl⟩
  have hv2 := rdV_lt1 s2
  rw [ha2] at hv2
  have hw2 := wrap_byte hv2
  rw [ha2, hs3] at hc
  have HA2 := Lib.hid ha2
  have HS3 := Lib.hid hs3
  clear ha2 hs3
  refine hc.mono ?_
  clear hc
  rintro e w3 ⟨rfl, R3, G3⟩
  have M3 := M2'.grown G3 (fun e => by injection e; omega)
  have C3 := C2'.grown G3 (fun e => by injection e; omega)
  have D3 := below_only D2' G3 (by omega)
  clear R2' M2' C2' D2' G3
  have f0 := M3.frozen 2
  obtain ⟨x0, x1, x2, x3, x4, x5, x6, x7, x8, x9⟩ := M3.c10
  go_wp2_with fail
  have M3' := M3.set_ 2 (.int .i64 (a2 : Int))
  have C3' := C3.far (p := ⟨w.heap.size + 1 + 1, 2, none⟩) (by simp; omega) (.int .i64 (a2 : Int))
  have R3' := R3.far (p := ⟨w.heap.size + 1 + 1, 2, none⟩) (by simp; omega) (by simp) (.int .i64 (a2 : Int))
  have D3' := D3.setCell (p := ⟨w.heap.size + 1 + 1, 2, none⟩) (by simp; omega) (.int .i64 (a2 : Int))
  clear f0 x0 x1 x2 x3 x4 x5 x6 x7 x8 x9 R3 M3 C3 D3
  replace M3' : Blk (w3.setCell ⟨w.heap.size + 1 + 1, 2, none⟩ (.int .i64 (a2 : Int))) (w.heap.size + 1 + 1) 41 #[.int .i64 (a0 : Int), .int .i64 (a1 : Int), .int .i64 (a2 : Int), .int .u64 0, .int .u64 0, .int .u64 0, .int .u64 0, .bool false, .slice none 0 0, .slice none 0 0] := M3'
  generalize w3.setCell ⟨w.heap.size + 1 + 1, 2, none⟩ (.int .i64 (a2 : Int)) = u3 at M3' C3' R3' D3' ⊢
  have hc := qnum_any (w.heap.size + 1) hi n c A l s3 1 _ R3' (by omega) (by omega) hl
  obtain ⟨a3, ha3⟩ : ∃ a, rdV 1 s3 = a := ⟨_, rfl⟩
  obtain ⟨s4, hs4⟩ : ∃ s, rdN 1 s3 = s := ⟨_, rfl⟩
  have hv3 := rdV_lt1 s3
  rw [ha3] at hv3
  rw [ha3, hs4] at hc
  have HA3 := Lib.hid ha3
  have HS4 := Lib.hid hs4
  clear ha3 hs4
  refine hc.mono ?_
  clear hc
  rintro e w4 ⟨rfl, R4, G4⟩
  have M4 := M3'.grown G4 (fun e => by injection e; omega)
  have C4 := C3'.grown G4 (fun e => by injection e; omega)
  have D4 := below_only D3' G4 (by omega)
  clear R3' M3' C3' D3' G4
  have f0 := M4.frozen 7
  obtain ⟨x0, x1, x2, x3, x4, x5, x6, x7, x8, x9⟩ := M4.c10
  go_wp2_with fail
  have M4' := M4.set_ 7 (.bool ((a3 : Int) == 1))
  have C4' := C4.far (p := ⟨w.heap.size + 1 + 1, 7, none⟩) (by simp; omega) (.bool ((a3 : Int) == 1))
  have R4' := R4.far (p := ⟨w.heap.size + 1 + 1, 7, none⟩) (by simp; omega) (by simp) (.bool ((a3 : Int) == 1))
  have D4' := D4.setCell (p := ⟨w.heap.size + 1 + 1, 7, none⟩) (by simp; omega) (.bool ((a3 : Int) == 1))
  clear f0 x0 x1 x2 x3 x4 x5 x6 x7 x8 x9 R4 M4 C4 D4
  replace M4' : Blk (w4.setCell ⟨w.heap.size + 1 + 1, 7, none⟩ (.bool ((a3 : Int) == 1))) (w.heap.size + 1 + 1) 41 #[.int .i64 (a0 : Int), .int .i64 (a1 : Int), .int .i64 (a2 : Int), .int .u64 0, .int .u64 0, .int .u64 0, .int .u64 0, .bool ((a3 : Int) == 1), .slice none 0 0, .slice none 0 0] := M4'
  generalize w4.setCell ⟨w.heap.size + 1 + 1, 7, none⟩ (.bool ((a3 : Int) == 1)) = u4 at M4' C4' R4' D4' ⊢
  have hc := qnum_any (w.heap.size + 1) hi n c A l s4 8 _ R4' (by omega) (by omega) hl
  obtain ⟨a4, ha4⟩ : ∃ a, rdV 8 s4 = a := ⟨_, rfl⟩
  obtain ⟨s5, hs5⟩ : ∃ s, rdN 8 s4 = s := ⟨_, rfl⟩
  have hv4 := rdV_lt8 s4
  rw [ha4] at hv4
  rw [ha4, hs5] at hc
  have HA4 := Lib.hid ha4
  have HS5 := Lib.hid hs5
  clear ha4 hs5
  refine hc.mono ?_
  clear hc
  rintro e w5 ⟨rfl, R5, G5⟩
  have M5 := M4'.grown G5 (fun e => by injection e; omega)
  have C5 := C4'.grown G5 (fun e => by injection e; omega)
  have D5 := below_only D4' G5 (by omega)
  clear R4' M4' C4' D4' G5
  have f0 := M5.frozen 3
  obtain ⟨x0, x1, x2, x3, x4, x5, x6, x7, x8, x9⟩ := M5.c10
  go_wp2_with fail
  have M5' := M5.set_ 3 (.int .u64 (a4 : Int))
  have C5' := C5.far (p := ⟨w.heap.size + 1 + 1, 3, none⟩) (by simp; omega) (.int .u64 (a4 : Int))
  have R5' := R5.far (p := ⟨w.heap.size + 1 + 1, 3, none⟩) (by simp; omega) (by simp) (.int .u64 (a4 : Int))
  have D5' := D5.setCell (p := ⟨w.heap.size + 1 + 1, 3, none⟩) (by simp; omega) (.int .u64 (a4 : Int))
  clear f0 x0 x1 x2 x3 x4 x5 x6 x7 x8 x9 R5 M5 C5 D5
  replace M5' : Blk (w5.setCell ⟨w.heap.size + 1 + 1, 3, none⟩ (.int .u64 (a4 : Int))) (w.heap.size + 1 + 1) 41 #[.int .i64 (a0 : Int), .int .i64 (a1 : Int), .int .i64 (a2 : Int), .int .u64 (a4 : Int), .int .u64 0, .int .u64 0, .int .u64 0, .bool ((a3 : Int) == 1), .slice none 0 0, .slice none 0 0] := M5'
  generalize w5.setCell ⟨w.heap.size + 1 + 1, 3, none⟩ (.int .u64 (a4 : Int)) = u5 at M5' C5' R5' D5' ⊢
  have hc := qnum_any (w.heap.size + 1) hi n c A l s5 8 _ R5' (by omega) (by omega) hl
  obtain ⟨a5, ha5⟩ : ∃ a, rdV 8 s5 = a := ⟨_, rfl⟩
  obtain ⟨s6, hs6⟩ : ∃ s, rdN 8 s5 = s := ⟨_, rfl⟩
  have hv5 := rdV_lt8 s5
  rw [ha5] at hv5
  rw [ha5, hs6] at hc
  have HA5 := Lib.hid ha5
  have HS6 := Lib.hid hs6
  clear ha5 hs6
  refine hc.mono ?_
  clear hc
  rintro e w6 ⟨rfl, R6, G6⟩
  have M6 := M5'.grown G6 (fun e => by injection e; omega)
  have C6 := C5'.grown G6 (fun e => by injection e; omega)
  have D6 := below_only D5' G6 (by omega)
  clear R5' M5' C5' D5' G6
  have f0 := M6.frozen 4
  obtain ⟨x0, x1, x2, x3, x4, x5, x6, x7, x8, x9⟩ := M6.c10
  go_wp2_with fail
  have M6' := M6.set_ 4 (.int .u64 (a5 : Int))
  have C6' := C6.far (p := ⟨w.heap.size + 1 + 1, 4, none⟩) (by simp; omega) (.int .u64 (a5 : Int))
  have R6' := R6.far (p := ⟨w.heap.size + 1 + 1, 4, none⟩) (by simp; omega) (by simp) (.int .u64 (a5 : Int))
  have D6' := D6.setCell (p := ⟨w.heap.size + 1 + 1, 4, none⟩) (by simp; omega) (.int .u64 (a5 : Int))
  clear f0 x0 x1 x2 x3 x4 x5 x6 x7 x8 x9 R6 M6 C6 D6
  replace M6' : Blk (w6.setCell ⟨w.heap.size + 1 + 1, 4, none⟩ (.int .u64 (a5 : Int))) (w.heap.size + 1 + 1) 41 #[.int .i64 (a0 : Int), .int .i64 (a1 : Int), .int .i64 (a2 : Int), .int .u64 (a4 : Int), .int .u64 (a5 : Int), .int .u64 0, .int .u64 0, .bool ((a3 : Int) == 1), .slice none 0 0, .slice none 0 0] := M6'
  generalize w6.setCell ⟨w.heap.size + 1 + 1, 4, none⟩ (.int .u64 (a5 : Int)) = u6 at M6' C6' R6' D6' ⊢
  have hc := qnum_any (w.heap.size + 1) hi n c A l s6 8 _ R6' (by omega) (by omega) hl
  obtain ⟨a6, ha6⟩ : ∃ a, rdV 8 s6 = a := ⟨_, rfl⟩
  obtain ⟨s7, hs7⟩ : ∃ s, rdN 8 s6 = s := ⟨_, rfl⟩
  have hv6 := rdV_lt8 s6
  rw [ha6] at hv6
  rw [ha6, hs7] at hc
  have HA6 := Lib.hid ha6
  have HS7 := Lib.hid hs7
  clear ha6 hs7
  refine hc.mono ?_
  clear hc
  rintro e w7 ⟨rfl, R7, G7⟩
  have M7 := M6'.grown G7 (fun e => by injection e; omega)
  have C7 := C6'.grown G7 (fun e => by injection e; omega)
  have D7 := below_only D6' G7 (by omega)
  clear R6' M6' C6' D6' G7
  have f0 := M7.frozen 5
  obtain ⟨x0, x1, x2, x3, x4, x5, x6, x7, x8, x9⟩ := M7.c10
  go_wp2_with fail
  have M7' := M7.set_ 5 (.int .u64 (a6 : Int))
  have C7' := C7.far (p := ⟨w.heap.size + 1 + 1, 5, none⟩) (by simp; omega) (.int .u64 (a6 : Int))
  have R7' := R7.far (p := ⟨w.heap.size + 1 + 1, 5, none⟩) (by simp; omega) (by simp) (.int .u64 (a6 : Int))
  have D7' := D7.setCell (p := ⟨w.heap.size + 1 + 1, 5, none⟩) (by simp; omega) (.int .u64 (a6 : Int))
  clear f0 x0 x1 x2 x3 x4 x5 x6 x7 x8 x9 R7 M7 C7 D7
  replace M7' : Blk (w7.setCell ⟨w.heap.size + 1 + 1, 5, none⟩ (.int .u64 (a6 : Int))) (w.heap.size + 1 + 1) 41 #[.int .i64 (a0 : Int), .int .i64 (a1 : Int), .int .i64 (a2 : Int), .int .u64 (a4 : Int), .int .u64 (a5 : Int), .int .u64 (a6 : Int), .int .u64 0, .bool ((a3 : Int) == 1), .slice none 0 0, .slice none 0 0] := M7'
  generalize w7.setCell ⟨w.heap.size + 1 + 1, 5, none⟩ (.int .u64 (a6 : Int)) = u7 at M7' C7' R7' D7' ⊢
  have hc := qnum_any (w.heap.size + 1) hi n c A l s7 8 _ R7' (by omega) (by omega) hl
  obtain ⟨a7, ha7⟩ : ∃ a, rdV 8 s7 = a := ⟨_, rfl⟩
  obtain ⟨s8, hs8⟩ : ∃ s, rdN 8 s7 = s := ⟨_, rfl⟩
  have hv7 := rdV_lt8 s7
  rw [ha7] at hv7
  rw [ha7, hs8] at hc
  have HA7 := Lib.hid ha7
  have HS8 := Lib.hid hs8
  clear ha7 hs8
  refine hc.mono ?_
  clear hc
  rintro e w8 ⟨rfl, R8, G8⟩
  have M8 := M7'.grown G8 (fun e => by injection e; omega)
  have C8 := C7'.grown G8 (fun e => by injection e; omega)
  have D8 := below_only D7' G8 (by omega)
  clear R7' M7' C7' D7' G8
  have f0 := M8.frozen 6
  obtain ⟨x0, x1, x2, x3, x4, x5, x6, x7, x8, x9⟩ := M8.c10
  go_wp2_with fail
  have M8' := M8.set_ 6 (.int .u64 (a7 : Int))
  have C8' := C8.far (p := ⟨w.heap.size + 1 + 1, 6, none⟩) (by simp; omega) (.int .u64 (a7 : Int))
  have R8' := R8.far (p := ⟨w.heap.size + 1 + 1, 6, none⟩) (by simp; omega) (by simp) (.int .u64 (a7 : Int))
  have D8' := D8.setCell (p := ⟨w.heap.size + 1 + 1, 6, none⟩) (by simp; omega) (.int .u64 (a7 : Int))
  clear f0 x0 x1 x2 x3 x4 x5 x6 x7 x8 x9 R8 M8 C8 D8
  replace M8' : Blk (w8.setCell ⟨w.heap.size + 1 + 1, 6, none⟩ (.int .u64 (a7 : Int))) (w.heap.size + 1 + 1) 41 #[.int .i64 (a0 : Int), .int .i64 (a1 : Int), .int .i64 (a2 : Int), .int .u64 (a4 : Int), .int .u64 (a5 : Int), .int .u64 (a6 : Int), .int .u64 (a7 : Int), .bool ((a3 : Int) == 1), .slice none 0 0, .slice none 0 0] := M8'
  generalize w8.setCell ⟨w.heap.size + 1 + 1, 6, none⟩ (.int .u64 (a7 : Int)) = u8 at M8' C8' R8' D8' ⊢
  have hc := qbytes_any (w.heap.size + 1) hi n c A l s8 _ R8' hl
  obtain ⟨d, hd⟩ : ∃ d, rbV s8 = d := ⟨_, rfl⟩
  obtain ⟨s9, hs9⟩ : ∃ s, rbN s8 = s := ⟨_, rfl⟩
  rw [hd, hs9] at hc
  have HDV := Lib.hid hd
  have HS9 := Lib.hid hs9
  clear hd hs9
  refine hc.mono ?_
  clear hc
  rintro e w9 ⟨dA, dc, rfl, SD, R9, G9⟩
  have M9 := M8'.grown G9 (fun e => by injection e; omega)
  have C9 := C8'.grown G9 (fun e => by injection e; omega)
  have D9 := below_only D8' G9 (by omega)
  clear R8' M8' C8' D8' G9
  have f0 := M9.frozen 8
  obtain ⟨x0, x1, x2, x3, x4, x5, x6, x7, x8, x9⟩ := M9.c10
  go_wp2_with fail
  have M9' := M9.set_ 8 (.slice dA d.length dc)
  have C9' := C9.far (p := ⟨w.heap.size + 1 + 1, 8, none⟩) (by simp; omega) (.slice dA d.length dc)
  have R9' := R9.far (p := ⟨w.heap.size + 1 + 1, 8, none⟩) (by simp; omega) (by simp) (.slice dA d.length dc)
  have D9' := D9.setCell (p := ⟨w.heap.size + 1 + 1, 8, none⟩) (by simp; omega) (.slice dA d.length dc)
  have SD9 := SD.setCell (p := ⟨w.heap.size + 1 + 1, 8, none⟩) (Or.inr (by simp; omega)) (.slice dA d.length dc)
  clear f0 x0 x1 x2 x3 x4 x5 x6 x7 x8 x9 R9 M9 C9 D9 SD
  replace M9' : Blk (w9.setCell ⟨w.heap.size + 1 + 1, 8, none⟩ (.slice dA d.length dc)) (w.heap.size + 1 + 1) 41 #[.int .i64 (a0 : Int), .int .i64 (a1 : Int), .int .i64 (a2 : Int), .int .u64 (a4 : Int), .int .u64 (a5 : Int), .int .u64 (a6 : Int), .int .u64 (a7 : Int), .bool ((a3 : Int) == 1), .slice dA d.length dc, .slice none 0 0] := M9'
  generalize w9.setCell ⟨w.heap.size + 1 + 1, 8, none⟩ (.slice dA d.length dc) = u9 at M9' C9' R9' D9' SD9 ⊢
  have hc := qnum_any (w.heap.size + 1) hi n c A l s9 1 _ R9' (by omega) (by omega) hl
  obtain ⟨N, hN⟩ : ∃ a, rdV 1 s9 = a := ⟨_, rfl⟩
  obtain ⟨s10, hs10⟩ : ∃ s, rdN 1 s9 = s := ⟨_, rfl⟩
  have hvN := rdV_lt1 s9
  rw [hN] at hvN
  rw [hN, hs10] at hc
  have HAN := Lib.hid hN
  have HS10 := Lib.hid hs10
  clear hN hs10
  refine hc.mono ?_
  clear hc
  rintro e w10 ⟨rfl, R10, G10⟩
  have M10 := M9'.grown G10 (fun e => by injection e; omega)
  have C10 := C9'.grown G10 (fun e => by injection e; omega)
  have D10 := below_only D9' G10 (by omega)
  have SD10 := SD9.grown (by decide) G10 (fun r e => Or.inr (by injection e; omega))
  clear R9' M9' C9' D9' SD9 G10
  go_wp2
  have hsz3 := M10.lt
  go_loopw [8] (fun i wr => QRel w hi n c A l N s10 #[.int .i64 (a0 : Int), .int .i64 (a1 : Int), .int .i64 (a2 : Int), .int .u64 (a4 : Int), .int .u64 (a5 : Int), .int .u64 (a6 : Int), .int .u64 (a7 : Int), .bool ((a3 : Int) == 1), .slice dA d.length dc] dA dc d i wr) (fun i _ => 256 - (intOf i).toNat)
  case atStart => exact ⟨0, s10, [], none, 0, Nat.zero_le _, rfl, Nat.le_refl _, R10, M10, C10, D10, World.ownsRow_nil _ _ _ _, (fun x hx => by cases hx), SD10, by omega, fun _ => rfl, fun h => decE_shut N s10 h⟩
  case round =>
    clear R10 M10 C10 D10 SD10 hsz3
    obtain ⟨j, s, es, eA, ec, hj, rfl, hej, R, M, C, D, O, U, S, hsz, hop, hsh⟩ := hrel
    simp only [List.push_toArray, List.cons_append, List.nil_append] at M
    have HOP := Lib.hid hop
    have HSH := Lib.hid hsh
    have HU := Lib.hid U
    clear hop hsh U
    obtain ⟨sl, sb⟩ := s
    by_cases hgo : j < N ∧ sb = false
    · obtain ⟨hlt, rfl⟩ := hgo
      have hop := HOP.out rfl
      have HOP2 := Lib.hid hop
      clear hop HOP HSH
      have hlt2 : decide (j < N) = true := decide_eq_true (by omega)
      obtain ⟨X, hX⟩ : ∃ X, wr.heap.size = X := ⟨_, rfl⟩
      obtain ⟨oX, hoX⟩ : ∃ o, Obj.cells #[.int .u64 0, .int .i64 0, .slice none 0 0] 85 = o := ⟨_, rfl⟩
      have B0 := Blk.new wr 85 #[.int .u64 0, .int .i64 0, .slice none 0 0]
      rw [hX] at B0
      obtain ⟨at0, hat0, Rb, -⟩ := R.blk
      obtain ⟨y0, y1, y2⟩ := Rb.c3
      have R0 := R.alloc (.cells #[.int .u64 0, .int .i64 0, .slice none 0 0] 85)
      have M0 := M.alloc (.cells #[.int .u64 0, .int .i64 0, .slice none 0 0] 85)
      have C0 := C.alloc (.cells #[.int .u64 0, .int .i64 0, .slice none 0 0] 85)
      have D0 := D.alloc D.size (.cells #[.int .u64 0, .int .i64 0, .slice none 0 0] 85)
      have O0 := O.alloc (.cells #[.int .u64 0, .int .i64 0, .slice none 0 0] 85)
      have S0 := S.alloc (by decide) (.cells #[.int .u64 0, .int .i64 0, .slice none 0 0] 85)
      have U0 : ∀ x ∈ es, Sl (wr.alloc (.cells #[.int .u64 0, .int .i64 0, .slice none 0 0] 85)) 0 hi 1 x.A x.l.length x.c (x.l.map bv) := fun x hx => (HU.out x hx).alloc (by decide) _
      have Z0 : X < (wr.alloc (.cells #[.int .u64 0, .int .i64 0, .slice none 0 0] 85)).heap.size := by simp; omega
      have HU0 := Lib.hid U0
      have hOX : (Value.slice eA es.length ec).ownBlock ≠ some X := fun e => by have := (O.lt X e).2; omega
      have HOX := Lib.hid hOX
      clear R M C D O S HU U0 Rb hoX hOX
      have hc := qnum_any (w.heap.size + 1) hi n c A l (sl, false) 8 _ R0 (by omega) (by omega) hl
      obtain ⟨b0, hb0⟩ : ∃ a, rdV 8 (sl, false) = a := ⟨_, rfl⟩
      obtain ⟨t1, ht1⟩ : ∃ s, rdN 8 (sl, false) = s := ⟨_, rfl⟩
      have hu0 := rdV_lt8 (sl, false)
      rw [hb0] at hu0
      rw [hb0, ht1] at hc
      have HB0 := Lib.hid hb0
      have HT1 := Lib.hid ht1
      clear hb0 ht1
      go_wp2_with fail
      refine hc.mono ?_
      clear hc
      rintro e w21 ⟨rfl, R1, G1⟩
      have B1 := B0.grown G1 (fun e => by injection e; omega)
      have M1 := M0.grown G1 (fun e => by injection e; omega)
      have C1 := C0.grown G1 (fun e => by injection e; omega)
      have D1 := below_only D0 G1 (by omega)
      have O1 := own_keepR O0 G1 (fun r e => by cases e; exact .inl (by omega))
      have S1 := S0.grown (by decide) G1 (fun r e => Or.inr (by injection e; omega))
      have U1 : ∀ x ∈ es, Sl w21 0 hi 1 x.A x.l.length x.c (x.l.map bv) := fun x hx => (HU0.out x hx).grown (by decide) G1 (fun r e => Or.inr (by injection e; omega))
      have Z1 : X < w21.heap.size := Nat.lt_of_lt_of_le Z0 G1.size
      have HU1 := Lib.hid U1
      clear B0 M0 C0 D0 O0 S0 HU0 U1 R0 G1 Z0
      clear y0 y1 y2
      have f0 := B1.frozen 0
      obtain ⟨x0, x1, x2⟩ := B1.c3
      go_wp2_with fail
      have B1' : Blk (w21.setCell ⟨X, 0, none⟩ (.int .u64 (b0 : Int))) X 85 #[.int .u64 (b0 : Int), .int .i64 0, .slice none 0 0] := B1.set_ 0 (.int .u64 (b0 : Int))
      have M1' := M1.far (p := ⟨X, 0, none⟩) (by simp; omega) (.int .u64 (b0 : Int))
      have C1' := C1.far (p := ⟨X, 0, none⟩) (by simp; omega) (.int .u64 (b0 : Int))
      have R1' := R1.far (p := ⟨X, 0, none⟩) (by simp; omega) (by simp; omega) (.int .u64 (b0 : Int))
      have D1' := D1.setCell (p := ⟨X, 0, none⟩) (by simp; omega) (.int .u64 (b0 : Int))
      have O1' := own_far O1 HOX.out 0 (.int .u64 (b0 : Int))
      have S1' := S1.setCell (p := ⟨X, 0, none⟩) (Or.inr (by simp; omega)) (.int .u64 (b0 : Int))
      have U1' : ∀ x ∈ es, Sl (w21.setCell ⟨X, 0, none⟩ (.int .u64 (b0 : Int))) 0 hi 1 x.A x.l.length x.c (x.l.map bv) := fun x hx => (HU1.out x hx).setCell (Or.inr (by simp; omega)) _
      have Z1' : X < (w21.setCell ⟨X, 0, none⟩ (.int .u64 (b0 : Int))).heap.size := by simpa using Z1
      have HU1' := Lib.hid U1'
      clear f0 x0 x1 x2 B1 M1 C1 R1 D1 O1 S1 HU1 U1' Z1
      generalize w21.setCell ⟨X, 0, none⟩ (.int .u64 (b0 : Int)) = v1 at B1' M1' C1' R1' D1' O1' S1' HU1' Z1' ⊢
      have hc := qnum_any (w.heap.size + 1) hi n c A l t1 1 _ R1' (by omega) (by omega) hl
      obtain ⟨b1, hb1⟩ : ∃ a, rdV 1 t1 = a := ⟨_, rfl⟩
      obtain ⟨t2, ht2⟩ : ∃ s, rdN 1 t1 = s := ⟨_, rfl⟩
      have hu1 := rdV_lt1 t1
      rw [hb1] at hu1
      have hv1 := wrap_byte hu1
      rw [hb1, ht2] at hc
      have HB1 := Lib.hid hb1
      have HT2 := Lib.hid ht2
      clear hb1 ht2
      go_wp2_with fail
      refine hc.mono ?_
      clear hc
      rintro e w22 ⟨rfl, R2, G2⟩
      have B2 := B1'.grown G2 (fun e => by injection e; omega)
      have M2 := M1'.grown G2 (fun e => by injection e; omega)
      have C2 := C1'.grown G2 (fun e => by injection e; omega)
      have D2 := below_only D1' G2 (by omega)
      have O2 := own_keepR O1' G2 (fun r e => by cases e; exact .inl (by omega))
      have S2 := S1'.grown (by decide) G2 (fun r e => Or.inr (by injection e; omega))
      have U2 : ∀ x ∈ es, Sl w22 0 hi 1 x.A x.l.length x.c (x.l.map bv) := fun x hx => (HU1'.out x hx).grown (by decide) G2 (fun r e => Or.inr (by injection e; omega))
      have Z2 : X < w22.heap.size := Nat.lt_of_lt_of_le Z1' G2.size
      have HU2 := Lib.hid U2
      clear B1' M1' C1' D1' O1' S1' HU1' U2 R1' G2 Z1'
      have f0 := B2.frozen 1
      obtain ⟨x0, x1, x2⟩ := B2.c3
      go_wp2_with fail
      have B2' : Blk (w22.setCell ⟨X, 1, none⟩ (.int .i64 (b1 : Int))) X 85 #[.int .u64 (b0 : Int), .int .i64 (b1 : Int), .slice none 0 0] := B2.set_ 1 (.int .i64 (b1 : Int))
      have M2' := M2.far (p := ⟨X, 1, none⟩) (by simp; omega) (.int .i64 (b1 : Int))
      have C2' := C2.far (p := ⟨X, 1, none⟩) (by simp; omega) (.int .i64 (b1 : Int))
      have R2' := R2.far (p := ⟨X, 1, none⟩) (by simp; omega) (by simp; omega) (.int .i64 (b1 : Int))
      have D2' := D2.setCell (p := ⟨X, 1, none⟩) (by simp; omega) (.int .i64 (b1 : Int))
      have O2' := own_far O2 HOX.out 1 (.int .i64 (b1 : Int))
      have S2' := S2.setCell (p := ⟨X, 1, none⟩) (Or.inr (by simp; omega)) (.int .i64 (b1 : Int))
      have U2' : ∀ x ∈ es, Sl (w22.setCell ⟨X, 1, none⟩ (.int .i64 (b1 : Int))) 0 hi 1 x.A x.l.length x.c (x.l.map bv) := fun x hx => (HU2.out x hx).setCell (Or.inr (by simp; omega)) _
      have Z2' : X < (w22.setCell ⟨X, 1, none⟩ (.int .i64 (b1 : Int))).heap.size := by simpa using Z2
      have HU2' := Lib.hid U2'
      clear f0 x0 x1 x2 B2 M2 C2 R2 D2 O2 S2 HU2 U2' Z2
      generalize w22.setCell ⟨X, 1, none⟩ (.int .i64 (b1 : Int)) = v2 at B2' M2' C2' R2' D2' O2' S2' HU2' Z2' ⊢
      have hc := qbytes_any (w.heap.size + 1) hi n c A l t2 _ R2' hl
      obtain ⟨bd, hbd⟩ : ∃ d, rbV t2 = d := ⟨_, rfl⟩
      obtain ⟨t3, ht3⟩ : ∃ s, rbN t2 = s := ⟨_, rfl⟩
      rw [hbd, ht3] at hc
      have HBD := Lib.hid hbd
      have HT3 := Lib.hid ht3
      clear hbd ht3
      go_wp2_with fail
      refine hc.mono ?_
      clear hc
      rintro e w23 ⟨xA, xc, rfl, SX, R3, G3⟩
      have B3 := B2'.grown G3 (fun e => by injection e; omega)
      have M3 := M2'.grown G3 (fun e => by injection e; omega)
      have C3 := C2'.grown G3 (fun e => by injection e; omega)
      have D3 := below_only D2' G3 (by omega)
      have O3 := own_keepR O2' G3 (fun r e => by cases e; exact .inl (by omega))
      have S3 := S2'.grown (by decide) G3 (fun r e => Or.inr (by injection e; omega))
      have U3 : ∀ x ∈ es, Sl w23 0 hi 1 x.A x.l.length x.c (x.l.map bv) := fun x hx => (HU2'.out x hx).grown (by decide) G3 (fun r e => Or.inr (by injection e; omega))
      have Z3 : X < w23.heap.size := Nat.lt_of_lt_of_le Z2' G3.size
      have HU3 := Lib.hid U3
      clear B2' M2' C2' D2' O2' S2' HU2' U3 R2' G3 Z2'
      have f0 := B3.frozen 2
      obtain ⟨x0, x1, x2⟩ := B3.c3
      have B3' : Blk (w23.setCell ⟨X, 2, none⟩ (.slice xA bd.length xc)) X 85 #[.int .u64 (b0 : Int), .int .i64 (b1 : Int), .slice xA bd.length xc] := B3.set_ 2 (.slice xA bd.length xc)
      have M3' := M3.far (p := ⟨X, 2, none⟩) (by simp; omega) (.slice xA bd.length xc)
      have C3' := C3.far (p := ⟨X, 2, none⟩) (by simp; omega) (.slice xA bd.length xc)
      have R3' := R3.far (p := ⟨X, 2, none⟩) (by simp; omega) (by simp; omega) (.slice xA bd.length xc)
      have D3' := D3.setCell (p := ⟨X, 2, none⟩) (by simp; omega) (.slice xA bd.length xc)
      have O3' := own_far O3 HOX.out 2 (.slice xA bd.length xc)
      have S3' := S3.setCell (p := ⟨X, 2, none⟩) (Or.inr (by simp; omega)) (.slice xA bd.length xc)
      have SX' := SX.setCell (p := ⟨X, 2, none⟩) (Or.inr (by simp; omega)) (.slice xA bd.length xc)
      have U3' : ∀ x ∈ es, Sl (w23.setCell ⟨X, 2, none⟩ (.slice xA bd.length xc)) 0 hi 1 x.A x.l.length x.c (x.l.map bv) := fun x hx => (HU3.out x hx).setCell (Or.inr (by simp; omega)) _
      have Z3' : X < (w23.setCell ⟨X, 2, none⟩ (.slice xA bd.length xc)).heap.size := by simpa using Z3
      have HU3' := Lib.hid U3'
      have x9 := M3.cell 9
      simp only [List.getElem?_toArray, List.getElem?_cons_zero, List.getElem?_cons_succ] at x9
      obtain ⟨i0, hi0, hz0, hz1, hz2⟩ := info_parts en_info
      clear B3 M3 C3 R3 D3 O3 S3 SX HU3 U3'
      have Z4 : w.heap.size + 3 ≤ w23.heap.size := by omega
      go_wp2_with (at_builtin; refine wpList_append_own _ rfl (.tmp 73) (.tmp 75) 39 rfl (w.heap.size + 3) 85 i0 _ 3 40 Tryd.underlying39 hi0 hz0 hz1 hz2 rfl (by decide) (.slice eA es.length ec) es.length (ecells es) rfl (O3'.alloc _) ⟨w23.heap.size, 0, none⟩ 1 1 (ecells [⟨b0, (b1 : Int), xA, xc, bd⟩]) rfl rfl (lit_cells _ _ _ _ _ _ (by simp)) (ec_one _) (by simp only [maxLen]; omega) (by omega) (by simp; omega) ?_; intro v1 w1' hown1 hg1 _; obtain ⟨A1, c1, rfl, -⟩ := own_sl hown1; have hM1 := (M3'.alloc (.cells #[.int .u64 (b0 : Int), .int .i64 (b1 : Int), .slice xA bd.length xc] 85)).grown hg1 (own_off O3' (by omega)); have y9 := hM1.cell 9; have g9 := hM1.frozen 9; simp only [List.getElem?_toArray, List.getElem?_cons_zero, List.getElem?_cons_succ] at y9)
      have Z5 : w.heap.size + 3 ≤ w1'.heap.size := by have := hg1.size; simp at this; omega
      go_roundw
      case rel =>
        have hbl : ∀ r, (Value.slice eA es.length ec).ownBlock = some r → w.heap.size + 3 ≤ r := fun r e => (O3'.lt r e).1
        have hEN : entN (sl, false) = t3 := by unfold entN; rw [HT1.out, HT2.out, HT3.out]
        have hEV : entV (sl, false) = (b0, (b1 : Int), bd) := by unfold entV; rw [HT1.out, HT2.out, HB0.out, HB1.out, HBD.out]
        have hNj : N - j = (N - (j + 1)) + 1 := by omega
        have hop := HOP2.out
        rw [hNj] at hop
        refine ⟨j + 1, t3, es ++ [⟨b0, (b1 : Int), xA, xc, bd⟩], A1, c1, by omega, by go_num, by simp; omega, ?_, ?_, ?_, ?_, ?_, ?_, ?_, ?_, ?_, ?_⟩
        · exact ((R3'.alloc _).grown hg1 (fun r e => by have := hbl r e; exact ⟨by omega, by omega⟩)).far (by simp; omega) (by simp) _
        · simpa using hM1.set_ 9 (.slice A1 (es.length + 1) c1)
        · exact ((C3'.alloc _).grown hg1 (fun e => by have := hbl _ e.symm; omega)).far (by simp; omega) _
        · exact ((D3'.alloc D3'.size _).grown hg1 (by have := D3'.size; simp at this ⊢; omega) (fun r e => by have := hbl r e; omega)).setCell (by simp; omega) _
        · rw [List.length_append, ecells_append]
          exact own_set hown1 (by omega) 9 _
        · intro x hx
          rcases List.mem_append.1 hx with hx | hx
          · exact (((HU3'.out x hx).alloc (by decide) _).grown (by decide) hg1 (fun r e => Or.inr (by have := hbl r e; omega))).setCell (Or.inr (by simp; omega)) _
          · rw [List.mem_singleton.1 hx]
            exact ((SX'.alloc (by decide) _).grown (by decide) hg1 (fun r e => Or.inr (by have := hbl r e; omega))).setCell (Or.inr (by simp; omega)) _
        · exact ((S3'.alloc (by decide) _).grown (by decide) hg1 (fun r e => Or.inr (by have := hbl r e; omega))).setCell (Or.inr (by simp; omega)) _
        · simpa using Z5
        · intro ht
          rw [decE_go (by rw [hEN]; exact ht), hEN, hEV] at hop
          rw [hop]
          simp [Ent.key]
        · intro ht
          rw [decE_stop (by rw [hEN]; exact ht), hEN] at hop
          rw [hop]
          exact ht
      case measure => simp [intOf]; omega
    · obtain ⟨E0, hE0⟩ : ∃ E, endE sb sl = E := ⟨_, rfl⟩
      have hEV : entsV l = decE N s10 := by
        unfold entsV st9 st8 st4
        rw [HS1.out, HS2.out, HS3.out, HS4.out, HS5.out, HS6.out, HS7.out, HS8.out, HS9.out, HAN.out, HS10.out]
      have hEE : endE (entsV l).2.2 (entsV l).2.1 = E0 ∧ (E0 = 0 → (entsV l).1 = es.map Ent.key) := by
        rw [hEV, ← hE0]
        cases hsb : sb with
        | true =>
          subst hsb
          have h1 := HSH.out rfl
          constructor
          · rw [h1]; simp [endE]
          · intro h; simp [endE] at h
        | false =>
          subst hsb
          have hjN : j = N := by
            rcases Nat.lt_or_ge j N with h | h
            · exact absurd ⟨h, rfl⟩ hgo
            · omega
          have h1 := HOP.out rfl
          rw [hjN, Nat.sub_self] at h1
          rw [h1]
          simp [decE]
      have hFV : flagV l = a3 := by
        unfold flagV
        rw [HS1.out, HS2.out, HS3.out, HA3.out]
      have hPV : decP l = ⟨(a0 : Int), (a1 : Int), (a2 : Int), a4, a5, a6, a7, (a3 : Int) == 1, d, (entsV l).1⟩ := by
        unfold decP
        rw [hFV]
        unfold st8 st4
        rw [HS1.out, HS2.out, HS3.out, HS4.out, HS5.out, HS6.out, HS7.out, HS8.out, HA0.out, HA1.out, HA2.out, HA4.out, HA5.out, HA6.out, HA7.out, HDV.out]
      have hCC : decC l = if E0 ≠ 0 then E0 else if 1 < a3 then 32 else checkK (a0 : Int) (a1 : Int) (a2 : Int) d.length (entsV l).1 := by
        unfold decC
        rw [hEE.1, hFV, hPV]
        rfl
      have hEnd := qend_any (w.heap.size + 1) hi n c A l (sl, sb) wr R
      simp only at hEnd
      rw [hE0] at hEnd
      have hElt := endE_lt sb sl
      rw [hE0] at hElt
      have HEE := Lib.hid hEE
      have HPV := Lib.hid hPV
      have HCC := Lib.hid hCC
      have HEND := Lib.hid hEnd
      obtain ⟨at0, hat0, Rb, -⟩ := R.blk
      obtain ⟨y0, y1, y2⟩ := Rb.c3
      simp only at y2
      clear hEV hEE hFV hPV hCC hEnd hE0 HOP HSH Rb
      have hcase : (decide (j < N) = false) ∨ (decide (j < N) = true ∧ sb = true) := by
        rcases Nat.lt_or_ge j N with h | h
        · refine .inr ⟨decide_eq_true (by omega), ?_⟩
          cases sb
          · exact absurd ⟨h, rfl⟩ hgo
          · rfl
        · exact .inl (decide_eq_false (by omega))
      clear hgo
      rcases hcase with hd | ⟨hd, rfl⟩
      all_goals
        go_wp2_with fail
        refine HEND.out.mono ?_
        rintro e _ ⟨rfl, q, rfl⟩
        have M1 := M.drewN q
        have C1 := C.drewN q
        have D1 := below_drewN D q
        have O1 := own_drewN O q
        have S1 := S.drewN q
        have U1 : ∀ x ∈ es, Sl (wr.drewN q) 0 hi 1 x.A x.l.length x.c (x.l.map bv) := fun x hx => (HU.out x hx).drewN q
        have Z1 : w.heap.size + 3 ≤ (wr.drewN q).heap.size := hsz
        have HU1 := Lib.hid U1
        clear M C D O S U1 R y0 y1 y2 HEND HU hsz
        generalize wr.drewN q = W at M1 C1 D1 O1 S1 HU1 Z1 ⊢
        by_cases h0 : E0 = 0
        · subst h0
          have hes := HEE.out.2 rfl
          have hCC := HCC.out
          rw [hes, if_neg (by simp)] at hCC
          have HES := Lib.hid hes
          clear HCC HEE hes
          by_cases hfl : 1 < a3
          · rw [if_pos hfl] at hCC
            have HCC := Lib.hid hCC
            have k1 : decide ((1 : Int) < (a3 : Int)) = true := decide_eq_true (by omega)
            clear hCC HU1 O1 S1 M1
            have r0 := C1.cell 0
            have e0 := C1.frozen 0
            have r1 := C1.cell 1
            have e1 := C1.frozen 1
            have r2 := C1.cell 2
            have e2 := C1.frozen 2
            have r3 := C1.cell 3
            have e3 := C1.frozen 3
            have r4 := C1.cell 4
            have e4 := C1.frozen 4
            have r5 := C1.cell 5
            have e5 := C1.frozen 5
            have r6 := C1.cell 6
            have e6 := C1.frozen 6
            have r7 := C1.cell 7
            have e7 := C1.frozen 7
            have r8 := C1.cell 8
            have e8 := C1.frozen 8
            have r9 := C1.cell 9
            have e9 := C1.frozen 9
            simp only [List.getElem?_toArray, List.getElem?_cons_zero, List.getElem?_cons_succ] at r0 r1 r2 r3 r4 r5 r6 r7 r8 r9
            go_wp2
            obtain ⟨hg, hbk, -, -⟩ := msg_set C1 (.int .i64 0) (.int .i64 0) (.int .i64 0) (.int .u64 0) (.int .u64 0) (.int .u64 0) (.int .u64 0) (.bool false) (.slice none 0 0) (.slice none 0 0)
            obtain ⟨c0, c1, c2, c3, c4, c5, c6, c7, c8, c9⟩ := Blk.c10 hbk
            refine bodyPost_ret (v := .tuple #[Msg.v Msg.zero, .int .i64 (32 : Nat)]) (by simp [results, Tryd.results62, go_sem, c0, c1, c2, c3, c4, c5, c6, c7, c8, c9, Msg.v, mcells, Msg.zero]) rfl ⟨Msg.zero, by rw [HCC.out], ?_, isMsgK_zero _ _, D1.grown hg D1.size (fun k e => by cases e; exact Nat.le_refl _)⟩
            unfold decM
            rw [if_neg (by rw [HCC.out]; omega)]
            rfl
          · rw [if_neg hfl] at hCC
            have k1 : decide ((1 : Int) < (a3 : Int)) = false := decide_eq_false (by omega)
            obtain ⟨m0, m1, m2, m3, m4, m5, m6, m7, m8, m9⟩ := Blk.c10 M1
            obtain ⟨Ax, cx, ex, hsx⟩ := own_sl O1
            injection ex with ex1 _ ex2
            subst ex1 ex2
            have hchk := qcheck_any (a0 : Int) (a1 : Int) (a2 : Int) a4 a5 a6 a7 ((a3 : Int) == 1) dA d.length dc eA es.length ec _ _ es W hsx (by have := S1.cap; have := S1.max; omega)
            rw [← checkF_key] at hCC
            obtain ⟨cc, hcc⟩ : ∃ cc, checkF (a0 : Int) (a1 : Int) (a2 : Int) d.length es = cc := ⟨_, rfl⟩
            rw [hcc] at hchk hCC
            have HCC := Lib.hid hCC
            have HCH := Lib.hid hchk
            clear hcc hchk hCC hsx hfl
            go_wp2_with fail
            refine HCH.out.mono ?_
            rintro e w20 ⟨rfl, hb20⟩
            have C2 := C1.after hb20
            have M2 := M1.after hb20
            have D2 := D1.trans (hb20.mono D1.size)
            have O2 := own_after O1 hb20
            have S2 := S1.after (by decide) hb20
            have U2 : ∀ x ∈ es, Sl w20 0 hi 1 x.A x.l.length x.c (x.l.map bv) := fun x hx => (HU1.out x hx).after (by decide) hb20
            have HU2 := Lib.hid U2
            clear m0 m1 m2 m3 m4 m5 m6 m7 m8 m9 C1 M1 D1 O1 S1 U2 HU1 HCH k1
            have r0 := C2.cell 0
            have e0 := C2.frozen 0
            have r1 := C2.cell 1
            have e1 := C2.frozen 1
            have r2 := C2.cell 2
            have e2 := C2.frozen 2
            have r3 := C2.cell 3
            have e3 := C2.frozen 3
            have r4 := C2.cell 4
            have e4 := C2.frozen 4
            have r5 := C2.cell 5
            have e5 := C2.frozen 5
            have r6 := C2.cell 6
            have e6 := C2.frozen 6
            have r7 := C2.cell 7
            have e7 := C2.frozen 7
            have r8 := C2.cell 8
            have e8 := C2.frozen 8
            have r9 := C2.cell 9
            have e9 := C2.frozen 9
            simp only [List.getElem?_toArray, List.getElem?_cons_zero, List.getElem?_cons_succ] at r0 r1 r2 r3 r4 r5 r6 r7 r8 r9
            by_cases hc0 : cc = 0
            · subst hc0
              obtain ⟨m0, m1, m2, m3, m4, m5, m6, m7, m8, m9⟩ := Blk.c10 M2
              go_wp2
              obtain ⟨hg, hbk, -, -⟩ := msg_set C2 (.int .i64 (a0 : Int)) (.int .i64 (a1 : Int)) (.int .i64 (a2 : Int)) (.int .u64 (a4 : Int)) (.int .u64 (a5 : Int)) (.int .u64 (a6 : Int)) (.int .u64 (a7 : Int)) (.bool ((a3 : Int) == 1)) (.slice dA d.length dc) (.slice eA es.length ec)
              obtain ⟨c0, c1, c2, c3, c4, c5, c6, c7, c8, c9⟩ := Blk.c10 hbk
              refine bodyPost_ret (v := .tuple #[Msg.v ⟨(a0 : Int), (a1 : Int), (a2 : Int), a4, a5, a6, a7, (a3 : Int) == 1, dA, dc, d, eA, ec, es⟩, .int .i64 (0 : Nat)]) (by simp [results, Tryd.results62, go_sem, c0, c1, c2, c3, c4, c5, c6, c7, c8, c9, Msg.v, mcells]) rfl ⟨⟨(a0 : Int), (a1 : Int), (a2 : Int), a4, a5, a6, a7, (a3 : Int) == 1, dA, dc, d, eA, ec, es⟩, by rw [HCC.out], ?_, isMsgK_ref (S2.grown (by decide) hg (fun r e => by cases e; exact .inr hhi)) (own_keepR O2 hg (fun r e => by cases e; exact .inl (by omega))) (fun x hx => (HU2.out x hx).grown (by decide) hg (fun r e => by cases e; exact .inr hhi)), D2.grown hg D2.size (fun k e => by cases e; exact Nat.le_refl _)⟩
              unfold decM
              rw [if_pos HCC.out, HPV.out, HES.out]
              rfl
            · have hnz : ((cc : Int) != 0) = true := by simp; omega
              clear M2 O2 S2 HU2
              go_wp2
              obtain ⟨hg, hbk, -, -⟩ := msg_set C2 (.int .i64 0) (.int .i64 0) (.int .i64 0) (.int .u64 0) (.int .u64 0) (.int .u64 0) (.int .u64 0) (.bool false) (.slice none 0 0) (.slice none 0 0)
              obtain ⟨c0, c1, c2, c3, c4, c5, c6, c7, c8, c9⟩ := Blk.c10 hbk
              refine bodyPost_ret (v := .tuple #[Msg.v Msg.zero, .int .i64 (cc : Nat)]) (by simp [results, Tryd.results62, go_sem, c0, c1, c2, c3, c4, c5, c6, c7, c8, c9, Msg.v, mcells, Msg.zero]) rfl ⟨Msg.zero, by rw [HCC.out], ?_, isMsgK_zero _ _, D2.grown hg D2.size (fun k e => by cases e; exact Nat.le_refl _)⟩
              unfold decM
              rw [if_neg (by rw [HCC.out]; omega)]
              rfl
        · have hne : ((E0 : Int) != 0) = true := by simp; omega
          have heq : ((E0 : Int) == 0) = false := by simp; omega
          have hCC := HCC.out
          rw [if_pos h0] at hCC
          have HC2 := Lib.hid hCC
          clear HCC hCC HU1 O1 S1 M1 HEE
          have r0 := C1.cell 0
          have e0 := C1.frozen 0
          have r1 := C1.cell 1
          have e1 := C1.frozen 1
          have r2 := C1.cell 2
          have e2 := C1.frozen 2
          have r3 := C1.cell 3
          have e3 := C1.frozen 3
          have r4 := C1.cell 4
          have e4 := C1.frozen 4
          have r5 := C1.cell 5
          have e5 := C1.frozen 5
          have r6 := C1.cell 6
          have e6 := C1.frozen 6
          have r7 := C1.cell 7
          have e7 := C1.frozen 7
          have r8 := C1.cell 8
          have e8 := C1.frozen 8
          have r9 := C1.cell 9
          have e9 := C1.frozen 9
          simp only [List.getElem?_toArray, List.getElem?_cons_zero, List.getElem?_cons_succ] at r0 r1 r2 r3 r4 r5 r6 r7 r8 r9
          go_wp2
          obtain ⟨hg, hbk, -, -⟩ := msg_set C1 (.int .i64 0) (.int .i64 0) (.int .i64 0) (.int .u64 0) (.int .u64 0) (.int .u64 0) (.int .u64 0) (.bool false) (.slice none 0 0) (.slice none 0 0)
          obtain ⟨c0, c1, c2, c3, c4, c5, c6, c7, c8, c9⟩ := Blk.c10 hbk
          refine bodyPost_ret (v := .tuple #[Msg.v Msg.zero, .int .i64 (E0 : Nat)]) (by simp [results, Tryd.results62, go_sem, c0, c1, c2, c3, c4, c5, c6, c7, c8, c9, Msg.v, mcells, Msg.zero]) rfl ⟨Msg.zero, by rw [HC2.out], ?_, isMsgK_zero _ _, D1.grown hg D1.size (fun k e => by cases e; exact Nat.le_refl _)⟩
          unfold decM
          rw [if_neg (by rw [HC2.out]; omega)]
          rfl
theorem qdecode_any {v : Value} {l : List UInt8} (w : World) (ha : Bytes w v l) (hl : l.length ≤ 100000) :
    Calls Tryd.prog 62 #[v] w fun e w' => ∃ m : Msg, e = .returned (.tuple #[m.v, .int .i64 (decC l : Nat)]) ∧ m.plain = decM l ∧ IsMsg w' m ∧ Below w.heap.size w w' :=
  (qdecode_strong w w.heap.size ha.now (Nat.le_refl _) hl).mono fun _ _ ⟨m, h1, h2, h3, h4⟩ => ⟨m, h1, h2, h3.1, h4⟩
end Go.Proofs.YtciolppoanfiaaaDoor
