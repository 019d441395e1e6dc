import Derived.Test.YtciolppoanfiaaaDoorZRBa
import Derived.Deep.DeepCutAuto
import Derived.RegionTactic
import Derived.BigRegion
/- The document's bag: Send. -/
namespace Go.Proofs.YtciolppoanfiaaaDoor
open Go.RowKit
section
variable {w w1 : World} {S S' : Nat → Prop} {g : Nat} {F : List RF} {cs : List (Int × Int)} {lost : Nat}
set_option maxRecDepth 100000 in
set_option maxHeartbeats 3200000 in
theorem rbsend_bad (m : Msg) (w : World) (hm : IsMsg w m) (hf : m.plain.fits) (h : RB w S g F cs lost) {E : Nat} (hE : m.plain.pkE = E) (h0 : E ≠ 0) :
    Calls Tryd.prog 69 #[.pointer (some ⟨g, 0, none⟩), m.v] w fun e w' => e = .returned (.int .i64 (E : Int)) ∧ RB w' S g F cs lost ∧ Chg (GO g) w w' := by
  obtain ⟨L, hL⟩ : ∃ L, m.plain.pkL = L := ⟨_, rfl⟩
  have HL := Lib.hid hL
  obtain ⟨M, hM⟩ : ∃ M : Msg, M = m := ⟨_, rfl⟩
  have hp : ∀ W, IsMsg W M → Calls Tryd.prog 27 #[M.v] W fun e w' => ∃ A n, e = .returned (.tuple #[.slice A L.length n, .int .i64 (E : Int)]) ∧ w'.ownsRow W.heap.size 5 1 (.slice A L.length n) L.length (L.map bv) ∧ Below W.heap.size W w' := fun W h1 => qpack_any M W h1 (by rw [hM]; exact hf) (by rw [hM]; exact hE) (by rw [hM]; exact hL)
  rw [← hM] at hm
  clear hf hL
  obtain ⟨k, f, t, te, ix, pr, co, ok, dA, dc, d, eA, ec, es⟩ := m
  simp only [Msg.v, mcells]
  have vM : M.v = .agg #[.int .i64 k, .int .i64 f, .int .i64 t, .int .u64 (te : Int), .int .u64 (ix : Int), .int .u64 (pr : Int), .int .u64 (co : Int), .bool ok, .slice dA d.length dc, .slice eA es.length ec] := by rw [hM]; rfl
  rw [vM] at hp
  clear hM vM hE
  generalize d.length = dn at hp ⊢
  generalize es.length = en at hp ⊢
  have HP := Lib.hid hp
  have HH := Lib.hid h
  clear hp h
  have n1 : ((E : Int) != 0) = true := bne_iff_ne.2 (by omega)
  go_enter Tryd.func69, Tryd.ntmps69
  go_wp2_with fail
  refine (HP.out _ (hm.alloc _)).mono ?_
  rintro e w1 ⟨A1, c1, rfl, o1, b1⟩
  have D1 := below_boxed b1
  clear HP
  clear b1 o1
  generalize L.length = ll
  go_wp2
  go_ret
  exact ⟨rfl, HH.out.after D1, Chg.below D1⟩
set_option maxRecDepth 100000 in
set_option maxHeartbeats 3200000 in
theorem rbsend_full (m : Msg) (w : World) (hm : IsMsg w m) (hf : m.plain.fits) (h : RB w S g F cs lost) {E : Nat} (hE : m.plain.pkE = E) (h0 : E = 0) (h60 : F.length = 60) (hl : lost < 1000000) :
    Calls Tryd.prog 69 #[.pointer (some ⟨g, 0, none⟩), m.v] w fun e w' => e = .returned (.int .i64 42) ∧ RB w' S g F cs (lost + 1) ∧ Chg (GO g) w w' := by
  obtain ⟨L, hL⟩ : ∃ L, m.plain.pkL = L := ⟨_, rfl⟩
  have HL := Lib.hid hL
  obtain ⟨M, hM⟩ : ∃ M : Msg, M = m := ⟨_, rfl⟩
  have hp : ∀ W, IsMsg W M → Calls Tryd.prog 27 #[M.v] W fun e w' => ∃ A n, e = .returned (.tuple #[.slice A L.length n, .int .i64 (E : Int)]) ∧ w'.ownsRow W.heap.size 5 1 (.slice A L.length n) L.length (L.map bv) ∧ Below W.heap.size W w' := fun W h1 => qpack_any M W h1 (by rw [hM]; exact hf) (by rw [hM]; exact hE) (by rw [hM]; exact hL)
  rw [← hM] at hm
  clear hf hL
  obtain ⟨k, f, t, te, ix, pr, co, ok, dA, dc, d, eA, ec, es⟩ := m
  simp only [Msg.v, mcells]
  have vM : M.v = .agg #[.int .i64 k, .int .i64 f, .int .i64 t, .int .u64 (te : Int), .int .u64 (ix : Int), .int .u64 (pr : Int), .int .u64 (co : Int), .bool ok, .slice dA d.length dc, .slice eA es.length ec] := by rw [hM]; rfl
  rw [vM] at hp
  clear hM vM hE
  generalize d.length = dn at hp ⊢
  generalize es.length = en at hp ⊢
  have HP := Lib.hid hp
  have HH := Lib.hid h
  clear hp h
  subst h0
  have hw : IntKind.i64.wrap ((lost : Int) + 1) = ((lost + 1 : Nat) : Int) := by rw [IntKind.wrap_i64]; omega
  go_enter Tryd.func69, Tryd.ntmps69
  go_wp2_with fail
  refine (HP.out _ (hm.alloc _)).mono ?_
  rintro e w1 ⟨A1, c1, rfl, o1, b1⟩
  have D1 := below_boxed b1
  clear HP
  clear b1 o1
  generalize L.length = ll
  have h1 := HH.out.after D1
  have H1 := Lib.hid h1
  obtain ⟨-, -, Af, cf, Ac, cc, hbk, -, -, -⟩ := h1
  rw [h60] at hbk
  obtain ⟨x0, x1, x2⟩ := hbk.c3
  have f2 := hbk.frozen 2
  clear hbk
  go_wp2
  go_ret
  obtain ⟨q1, q2⟩ := H1.out.lose (lost + 1)
  exact ⟨rfl, q1, (Chg.below D1).same q2⟩
set_option maxRecDepth 100000 in
set_option maxHeartbeats 3200000 in
theorem rbsend_ok (m : Msg) (w : World) (hm : IsMsg w m) (hf : m.plain.fits) (h : RB w S g F cs lost) {E : Nat} (hE : m.plain.pkE = E) (h0 : E = 0) (h60 : F.length < 60) :
    Calls Tryd.prog 69 #[.pointer (some ⟨g, 0, none⟩), m.v] w fun e w' => ∃ (f : RF) (S' : Nat → Prop), e = .returned (.int .i64 0) ∧ f.l = m.plain.pkL ∧ RB w' S' g (F ++ [f]) cs lost ∧ Chg (GO g) w w' ∧ ∀ b, S' b → S b ∨ w.heap.size ≤ b := by
  obtain ⟨L, hL⟩ : ∃ L, m.plain.pkL = L := ⟨_, rfl⟩
  have HL := Lib.hid hL
  obtain ⟨M, hM⟩ : ∃ M : Msg, M = m := ⟨_, rfl⟩
  have hp : ∀ W, IsMsg W M → Calls Tryd.prog 27 #[M.v] W fun e w' => ∃ A n, e = .returned (.tuple #[.slice A L.length n, .int .i64 (E : Int)]) ∧ w'.ownsRow W.heap.size 5 1 (.slice A L.length n) L.length (L.map bv) ∧ Below W.heap.size W w' := fun W h1 => qpack_any M W h1 (by rw [hM]; exact hf) (by rw [hM]; exact hE) (by rw [hM]; exact hL)
  rw [← hM] at hm
  clear hf hL
  obtain ⟨k, f, t, te, ix, pr, co, ok, dA, dc, d, eA, ec, es⟩ := m
  simp only [Msg.v, mcells]
  have vM : M.v = .agg #[.int .i64 k, .int .i64 f, .int .i64 t, .int .u64 (te : Int), .int .u64 (ix : Int), .int .u64 (pr : Int), .int .u64 (co : Int), .bool ok, .slice dA d.length dc, .slice eA es.length ec] := by rw [hM]; rfl
  rw [vM] at hp
  clear hM vM hE
  generalize d.length = dn at hp ⊢
  generalize es.length = en at hp ⊢
  have HP := Lib.hid hp
  have HH := Lib.hid h
  clear hp h
  subst h0
  obtain ⟨i0, hi0, hz0, hz1, hz2⟩ := info_parts row_info
  go_enter Tryd.func69, Tryd.ntmps69
  go_wp2_with fail
  refine (HP.out _ (hm.alloc _)).mono ?_
  rintro e w1 ⟨A1, c1, rfl, o1, b1⟩
  have D1 := below_boxed b1
  clear HP
  have hb1 := HH.out.after D1
  have H1 := Lib.hid hb1
  obtain ⟨hgt, hgS, Af, cf, Ac, cc, hbk, hlf, -, -⟩ := hb1
  obtain ⟨ll, hll⟩ : ∃ x, L.length = x := ⟨_, rfl⟩
  have HLL := Lib.hid hll
  have HO1 := Lib.hid o1
  rw [hll] at HO1
  have HB1 := Lib.hid b1
  obtain ⟨n, hn⟩ : ∃ n, F.length = n := ⟨_, rfl⟩
  have HN := Lib.hid hn
  have hs := hlf.1
  rw [hn] at hs hbk h60
  obtain ⟨x0, x1, x2⟩ := hbk.c3
  have f0 := hbk.frozen 0
  have hgl := hbk.lt
  have hcap := hs.cap
  have hmax := hs.max
  have n60 : ((n : Int) == 60) = false := beq_eq_false_iff_ne.2 (by omega)
  have HBK := Lib.hid hbk
  have HS := Lib.hid hs
  have hw1 := D1.size
  clear hgt hgS hlf hs hbk o1 b1 hn
  rw [hll]
  clear hll
  go_wp2_with (first
    | (at_builtin; refine wpList_app _ rfl (.tmp 29) (.tmp 33) 34 rfl w1.heap.size 22 i0 _ 1 24 Tryd.underlying34 hi0 hz0 hz1 hz2 rfl (by omega) (.slice (some ⟨w1.heap.size, 0, none⟩) 0 0) 0 [] rfl (by exact own_empty w1 _ 1 _ rfl) _ _ Af n cf (F.map RF.v) rfl (HS.out.alloc (by decide) _) (rf_one F) (by simp only [maxLen]; omega) (by omega) (by simp) ?_; intro v4 w4 o4 g4 a4; have D4 : Below w1.heap.size w1 w4 := ((Below.refl _ w1).alloc (Nat.le_refl _) _).grown g4 (by simp) (fun k hk => by have h' : some w1.heap.size = some k := hk; injection h' with h'; omega); have y0 := cell_belowR D4 x0; have z0 : w4.frozen? ⟨g, 0, none⟩ = false := (HBK.out.after D4).frozen 0; have hgl4 : g < w4.heap.size := Nat.lt_of_lt_of_le hgl D4.size)
    | (at_builtin; refine wpList_app _ rfl (.tmp 34) (.tmp 36) 34 rfl w1.heap.size 22 i0 _ 1 24 Tryd.underlying34 hi0 hz0 hz1 hz2 rfl (by omega) v4 (0 + n) ([] ++ F.map RF.v) rfl (by exact own_alloc' o4 _) w4.heap.size (w4.heap.size + 1) (some ⟨w4.heap.size, 0, none⟩) 1 1 [.slice A1 ll c1] rfl (by exact sl_one _ _ _) (by intro u hu; rw [List.mem_singleton.1 hu]; rfl) (by simp only [maxLen]; omega) (by omega) (by have := D4.size; simp; omega) ?_; intro v5 w5 o5 g5 a5; have D5 : Below w1.heap.size w1 w5 := (D4.alloc D4.size _).grown g5 (by have := D4.size; simp; omega) (fun k hk => (o4.lt k hk).1); have y0 := cell_belowR D5 x0; have z0 : w5.frozen? ⟨g, 0, none⟩ = false := (HBK.out.after D5).frozen 0; obtain ⟨A5, c5, hv5, -⟩ := own_sl o5; subst hv5))
  go_ret
  have ho : w1.ownsRow (w.alloc (.cells #[.int .i64 k, .int .i64 f, .int .i64 t, .int .u64 (te : Int), .int .u64 (ix : Int), .int .u64 (pr : Int), .int .u64 (co : Int), .bool ok, .slice dA dn dc, .slice eA en ec] 41)).heap.size 5 1 (.slice A1 L.length c1) L.length (L.map bv) := by rw [HLL.out]; exact HO1.out
  have hw5 := D5.size
  obtain ⟨S', r1, r2, r3⟩ := HH.out.push (w2 := w5) (f := ⟨A1, c1, L⟩) (v := .slice A5 (0 + n + 1) c5) (by rw [HN.out]; show World.ownsRow _ _ _ _ _ _ (_ ++ [Value.slice A1 L.length c1]); rw [HLL.out]; have := own_wide o5 hw1; simpa using this) (D1.trans (D5.mono hw1)) (.inr (Lie.own (own_after ho D5) (fun b h1 h2 => .inr ⟨by rw [alloc_size] at h1; omega, h2⟩) (by have := (HH.out).top g HH.out.gS; rw [alloc_size]; omega)))
  simp only [Nat.zero_add] at r1 r2
  exact ⟨⟨A1, c1, L⟩, S', rfl, HL.out.symm, r1, r2, r3⟩
end
end Go.Proofs.YtciolppoanfiaaaDoor

/- The document's bag: Look. -/
namespace Go.Proofs.YtciolppoanfiaaaDoor
open Go.RowKit
/-- a slice whose cells are none of a block's does not lie in it -/
theorem Sl.otherBlk {w w2 : World} {lo hi size n c R : Nat} {A : Option Addr} {xs : List Value} {t : TypeId} {cs : Array Value} (h : Sl w lo hi size A n c xs) (hb : Blk w R t cs) (hno : ∀ (o : Nat), ¬ ∀ (j : Nat) (u : Value), xs[j]? = some u → cs[o + j]? = some u) (hk : ∀ k, k < w.heap.size → k ≠ R → w2.heap[k]? = w.heap[k]?) : Sl w2 lo hi size A n c xs :=
  ⟨h.len, h.cap, h.max, fun hn => by
    obtain ⟨ad, e, h1, h2, hc⟩ := h.at_ hn
    have hne : ad.block ≠ R := fun er => by
      refine hno ad.off fun j u hu => ?_
      have hj := hc j u hu
      have hs0 : ad.spot = none := by
        cases hx : xs[0]? with
        | none =>
          have hnil : xs = [] := by cases xs with | nil => rfl | cons a al => simp at hx
          rw [hnil] at hu
          simp at hu
        | some u0 =>
          have h0 := World.cell?_spot (hc 0 u0 hx)
          unfold Addr.add at h0
          simpa using h0
      have : ad.add j = ⟨R, ad.off + j, none⟩ := by
        obtain ⟨bb, oo, ss⟩ := ad
        simp only at hs0 er
        subst hs0 er
        unfold Addr.add
        split
        · next h => simp [h]
        · rfl
      rw [this, hb.cell] at hj
      exact hj
    refine ⟨ad, e, h1, h2, fun j u hu => ?_⟩
    have hj := hc j u hu
    have hlt := World.block_lt_of_cell? w _ hj
    rw [block_of_add] at hlt
    exact (World.cell?_of_block (by rw [block_of_add]; exact hk _ hlt hne)).trans hj⟩
theorem bytes_other {w w2 : World} {v : Value} {l : List UInt8} {R : Nat} {t : TypeId} {cs : Array Value} (h : Bytes w v l) (hb : Blk w R t cs) (h8 : ∀ (i : Nat) (b : Int), cs[i]? ≠ some (Value.int .u8 b)) (hk : ∀ k, k < w.heap.size → k ≠ R → w2.heap[k]? = w.heap[k]?) : Bytes w2 v l := by
  obtain ⟨lo, hi, A, c, rfl, hs⟩ := h
  cases l with
  | nil => exact ⟨0, 0, A, c, rfl, ⟨hs.len, hs.cap, hs.max, fun hn => by simp at hn⟩⟩
  | cons x l => exact ⟨lo, hi, A, c, rfl, hs.otherBlk hb (fun o hall => h8 (o + 0) _ (hall 0 (bv x) rfl)) hk⟩
/-- a message does not lie in a block without bytes and without entries -/
theorem IsMsg.other {w w2 : World} {m : Msg} {R : Nat} {t : TypeId} {cs : Array Value} (h : IsMsg w m) (hb : Blk w R t cs) (h8 : ∀ (i : Nat) (b : Int), cs[i]? ≠ some (Value.int .u8 b)) (h64 : ∀ (i : Nat) (a b : Int), cs[i]? = some (Value.int .u64 a) → cs[i + 1]? ≠ some (Value.int .i64 b)) (_hs : w.heap.size ≤ w2.heap.size) (hk : ∀ k, k < w.heap.size → k ≠ R → w2.heap[k]? = w.heap[k]?) : IsMsg w2 m := by
  obtain ⟨⟨lo, hi, hd⟩, ⟨lo', hi', he⟩, hdat⟩ := h
  refine ⟨?_, ?_, fun e hm => bytes_other (hdat e hm) hb h8 hk⟩
  · obtain ⟨lo2, hi2, A, c, e, hs⟩ := bytes_other ⟨lo, hi, m.dA, m.dc, rfl, hd⟩ hb h8 hk
    injection e with e1 _ e3
    subst e1 e3
    exact ⟨lo2, hi2, hs⟩
  · cases hes : m.es with
    | nil =>
      rw [hes] at he
      exact ⟨0, 0, ⟨he.len, he.cap, he.max, fun hn => by simp at hn⟩⟩
    | cons x es =>
      rw [hes] at he
      exact ⟨lo', hi', he.otherBlk hb (fun o hall => by
        have h0 := hall 0 _ rfl
        have h1 := hall 1 _ rfl
        exact h64 (o + 0) _ _ h0 h1) hk⟩
theorem msg_no8 {k f t : Int} {te ix pr co : Int} {ok : Bool} {u v : Value} {A B : Option Addr} {n c m d : Nat} (hu : u = .slice A n c) (hv : v = .slice B m d) : ∀ (i : Nat) (b : Int), (#[.int .i64 k, .int .i64 f, .int .i64 t, .int .u64 te, .int .u64 ix, .int .u64 pr, .int .u64 co, .bool ok, u, v] : Array Value)[i]? ≠ some (.int .u8 b) := by
  subst hu hv
  intro i b
  match i with
  | 0 | 1 | 2 | 3 | 4 | 5 | 6 | 7 | 8 | 9 => simp
  | i + 10 => simp
theorem msg_no64 {k f t : Int} {te ix pr co : Int} {ok : Bool} {u v : Value} {A B : Option Addr} {n c m d : Nat} (hu : u = .slice A n c) (hv : v = .slice B m d) : ∀ (i : Nat) (a b : Int), (#[.int .i64 k, .int .i64 f, .int .i64 t, .int .u64 te, .int .u64 ix, .int .u64 pr, .int .u64 co, .bool ok, u, v] : Array Value)[i]? = some (.int .u64 a) → (#[.int .i64 k, .int .i64 f, .int .i64 t, .int .u64 te, .int .u64 ix, .int .u64 pr, .int .u64 co, .bool ok, u, v] : Array Value)[i + 1]? ≠ some (.int .i64 b) := by
  subst hu hv
  intro i a b
  match i with
  | 0 | 1 | 2 | 3 | 4 | 5 | 6 | 7 | 8 | 9 => simp
  | i + 10 => simp
section
variable {w w1 : World} {S S' : Nat → Prop} {g : Nat} {F : List RF} {cs : List (Int × Int)} {lost : Nat}
set_option maxRecDepth 100000 in
set_option maxHeartbeats 1000000 in
theorem rblook_no (i : Int) (w : World) (h : RB w S g F cs lost) (hi : ¬ (0 ≤ i ∧ i < (F.length : Int))) :
    Calls Tryd.prog 42 #[.pointer (some ⟨g, 0, none⟩), .int .i64 i] w fun e w' => e = .returned (.tuple #[Msg.zero.v, .int .i64 1]) ∧ Below w.heap.size w w' := by
  have R0 := Blk.new w 41 #[.int .i64 0, .int .i64 0, .int .i64 0, .int .u64 0, .int .u64 0, .int .u64 0, .int .u64 0, .bool false, .slice none 0 0, .slice none 0 0]
  have D0 := (Below.refl w.heap.size w).alloc (Nat.le_refl _) (.cells #[.int .i64 0, .int .i64 0, .int .i64 0, .int .u64 0, .int .u64 0, .int .u64 0, .int .u64 0, .bool false, .slice none 0 0, .slice none 0 0] 41)
  have hc := rbin_any i _ (h.alloc (.cells #[.int .i64 0, .int .i64 0, .int .i64 0, .int .u64 0, .int .u64 0, .int .u64 0, .int .u64 0, .bool false, .slice none 0 0, .slice none 0 0] 41)) (decide_eq_false hi)
  have HC := Lib.hid hc
  clear hc hi h
  have r0 := R0.cell 0
  have e0 := R0.frozen 0
  have r1 := R0.cell 1
  have e1 := R0.frozen 1
  have r2 := R0.cell 2
  have e2 := R0.frozen 2
  have r3 := R0.cell 3
  have e3 := R0.frozen 3
  have r4 := R0.cell 4
  have e4 := R0.frozen 4
  have r5 := R0.cell 5
  have e5 := R0.frozen 5
  have r6 := R0.cell 6
  have e6 := R0.frozen 6
  have r7 := R0.cell 7
  have e7 := R0.frozen 7
  have r8 := R0.cell 8
  have e8 := R0.frozen 8
  have r9 := R0.cell 9
  have e9 := R0.frozen 9
  simp only [List.getElem?_toArray, List.getElem?_cons_zero, List.getElem?_cons_succ] at r0 r1 r2 r3 r4 r5 r6 r7 r8 r9
  go_enter Tryd.func42, Tryd.ntmps42
  go_wp2_with fail
  refine HC.out.mono ?_
  rintro e _ ⟨rfl, rfl⟩
  go_wp2
  exact bodyPost_ret (v := .tuple #[Msg.zero.v, .int .i64 1]) (by simp [results, Tryd.results42, go_sem, Msg.v, mcells, Msg.zero]) rfl ⟨rfl, D0⟩
set_option maxRecDepth 100000 in
set_option maxHeartbeats 2000000 in
theorem rblook_ok (i : Nat) (l : List UInt8) (w : World) (h : RB w S g F cs lost) {f : RF} (hi : F[i]? = some f) (hfl : f.l = l) (hl : l.length ≤ 100000) :
    Calls Tryd.prog 42 #[.pointer (some ⟨g, 0, none⟩), .int .i64 (i : Int)] w fun e w' => ∃ m : Msg, e = .returned (.tuple #[m.v, .int .i64 (unE l : Nat)]) ∧ m.plain = unM l ∧ IsMsg w' m ∧ Below w.heap.size w w' := by
  have R0 := Blk.new w 41 #[.int .i64 0, .int .i64 0, .int .i64 0, .int .u64 0, .int .u64 0, .int .u64 0, .int .u64 0, .bool false, .slice none 0 0, .slice none 0 0]
  have D0 := (Below.refl w.heap.size w).alloc (Nat.le_refl _) (.cells #[.int .i64 0, .int .i64 0, .int .i64 0, .int .u64 0, .int .u64 0, .int .u64 0, .int .u64 0, .bool false, .slice none 0 0, .slice none 0 0] 41)
  have h0 := h.alloc (.cells #[.int .i64 0, .int .i64 0, .int .i64 0, .int .u64 0, .int .u64 0, .int .u64 0, .int .u64 0, .bool false, .slice none 0 0, .slice none 0 0] 41)
  have hin := (List.getElem?_eq_some_iff.1 hi).1
  have hc := rbin_any (i : Int) _ h0 (b := true) (decide_eq_true (by omega))
  have HC := Lib.hid hc
  obtain ⟨-, -, Af, cf, Ac, cc, hb, hlf, -, hfr⟩ := h0
  have hs := hlf.1
  obtain ⟨ad, u, rfl, hu, hcell⟩ := hs.nth hin
  rw [List.getElem?_map, hi] at hu
  obtain rfl : f.v = u := by simpa using hu
  have hfo := (hfr f (List.mem_of_getElem? hi)).1
  rw [hfl] at hfo
  have hcall := qunpack_any (l := l) _ ⟨f.A, f.c, rfl, hfo⟩ (Nat.le_refl _) hl
  simp only [RF.v] at hcell
  rw [hfl] at hcell
  obtain ⟨x0, x1, x2⟩ := hb.c3
  obtain ⟨ln, hln⟩ : ∃ n, l.length = n := ⟨_, rfl⟩
  rw [hln] at hcell hcall
  obtain ⟨fA, hfA⟩ : ∃ x, f.A = x := ⟨_, rfl⟩
  obtain ⟨fc, hfc⟩ : ∃ x, f.c = x := ⟨_, rfl⟩
  rw [hfA, hfc] at hcell hcall
  have HCL := Lib.hid hcall
  have hmax := hs.max
  have hcapf := hs.cap
  generalize F.length = n at hin x0 HC hcapf
  clear hc hlf hfr hs hu hfo hcall hln hb h hl hi hfl hfA hfc
  go_enter Tryd.func42, Tryd.ntmps42
  go_wp2_with fail
  refine HC.out.mono ?_
  rintro e _ ⟨rfl, rfl⟩
  clear HC
  go_wp2_with fail
  refine HCL.out.mono ?_
  rintro e w1 ⟨m, B1, d1, rfl, hpl, hmk, -, hb1⟩
  have R1 := R0.after hb1
  have D1 := D0.trans (hb1.mono D0.size)
  have z1 : w.heap.size < w1.heap.size := R1.lt
  clear R0 D0 hb1 HCL hcell x0 x1 x2
  obtain ⟨k, f, t, te, ix, pr, co, ok, dA, dc, d, eA, ec, es⟩ := m
  simp only [Msg.v, mcells]
  obtain ⟨M, hMd⟩ : ∃ M : Msg, M = ⟨k, f, t, te, ix, pr, co, ok, dA, dc, d, eA, ec, es⟩ := ⟨_, rfl⟩
  have vM : M.v = .agg #[.int .i64 k, .int .i64 f, .int .i64 t, .int .u64 (te : Int), .int .u64 (ix : Int), .int .u64 (pr : Int), .int .u64 (co : Int), .bool ok, .slice dA d.length dc, .slice eA es.length ec] := by rw [hMd]; rfl
  rw [← hMd] at hpl hmk
  generalize hdn : d.length = dn at vM ⊢
  generalize hen : es.length = en at vM ⊢
  clear hdn hen hMd
  have V := Lib.hid vM
  have HK := Lib.hid hmk
  have HPL := Lib.hid hpl
  clear vM hmk hpl
  obtain ⟨E0, hE0⟩ : ∃ E, unE l = E := ⟨_, rfl⟩
  rw [hE0]
  have HE0 := Lib.hid hE0
  clear hE0
  generalize (unR l).length = rl
  have r0 := R1.cell 0
  have e0 := R1.frozen 0
  have r1 := R1.cell 1
  have e1 := R1.frozen 1
  have r2 := R1.cell 2
  have e2 := R1.frozen 2
  have r3 := R1.cell 3
  have e3 := R1.frozen 3
  have r4 := R1.cell 4
  have e4 := R1.frozen 4
  have r5 := R1.cell 5
  have e5 := R1.frozen 5
  have r6 := R1.cell 6
  have e6 := R1.frozen 6
  have r7 := R1.cell 7
  have e7 := R1.frozen 7
  have r8 := R1.cell 8
  have e8 := R1.frozen 8
  have r9 := R1.cell 9
  have e9 := R1.frozen 9
  simp only [List.getElem?_toArray, List.getElem?_cons_zero, List.getElem?_cons_succ] at r0 r1 r2 r3 r4 r5 r6 r7 r8 r9
  obtain ⟨hg2, hbk0, -, -⟩ := msg_set R1 (.int .i64 k) (.int .i64 f) (.int .i64 t) (.int .u64 (te : Int)) (.int .u64 (ix : Int)) (.int .u64 (pr : Int)) (.int .u64 (co : Int)) (.bool ok) (.slice dA dn dc) (.slice eA en ec)
  have hbk2 := hbk0.alloc (.cells #[.int .i64 k, .int .i64 f, .int .i64 t, .int .u64 (te : Int), .int .u64 (ix : Int), .int .u64 (pr : Int), .int .u64 (co : Int), .bool ok, .slice dA dn dc, .slice eA en ec] 41)
  have hgg := only_alloc hg2 (.cells #[.int .i64 k, .int .i64 f, .int .i64 t, .int .u64 (te : Int), .int .u64 (ix : Int), .int .u64 (pr : Int), .int .u64 (co : Int), .bool ok, .slice dA dn dc, .slice eA en ec] 41)
  clear hg2 hbk0
  go_wp2
  obtain ⟨c0, c1, c2, c3, c4, c5, c6, c7, c8, c9⟩ := Blk.c10 hbk2
  exact bodyPost_ret (v := .tuple #[M.v, .int .i64 (E0 : Nat)]) (by rw [V.out]; simp [results, Tryd.results42, go_sem, c0, c1, c2, c3, c4, c5, c6, c7, c8, c9]) rfl ⟨M, by rw [HE0.out], HPL.out, HK.out.other R1 (msg_no8 rfl rfl) (msg_no64 rfl rfl) hgg.size (fun k hk hne => hgg.block k hk (fun e => hne (by injection e))), D1.grown hgg D1.size (fun k e => by cases e; exact Nat.le_refl _)⟩
end
end Go.Proofs.YtciolppoanfiaaaDoor

/- The document's bag: Deliver. -/
namespace Go.Proofs.YtciolppoanfiaaaDoor
open Go.RowKit
def dER (cs : List (Int × Int)) (l : List UInt8) : Nat := if unE l = 0 then (if cs.any (same2 (unM l).f (unM l).t) = true then 50 else 0) else unE l
theorem bag_no8 {u v : Value} {A B : Option Addr} {n c m d : Nat} {q : Int} (hu : u = .slice A n c) (hv : v = .slice B m d) : ∀ (i : Nat) (b : Int), (#[u, v, .int .i64 q] : Array Value)[i]? ≠ some (Value.int .u8 b) := by
  subst hu hv
  intro i b
  match i with
  | 0 | 1 | 2 => simp
  | i + 3 => simp
theorem bag_no64 {u v : Value} {A B : Option Addr} {n c m d : Nat} {q : Int} (hu : u = .slice A n c) (hv : v = .slice B m d) : ∀ (i : Nat) (a b : Int), (#[u, v, .int .i64 q] : Array Value)[i]? = some (Value.int .u64 a) → (#[u, v, .int .i64 q] : Array Value)[i + 1]? ≠ some (Value.int .i64 b) := by
  subst hu hv
  intro i a b
  match i with
  | 0 | 1 | 2 => simp
  | i + 3 => simp
section
variable {w w1 : World} {S S' : Nat → Prop} {g : Nat} {F : List RF} {cs : List (Int × Int)} {lost : Nat}
/-- a message stays where the bag's own block turns -/
theorem RB.msg (h : RB w S g F cs lost) {m : Msg} (hm : IsMsg w m) (hc : Chg (GO g) w w1) : IsMsg w1 m := by
  obtain ⟨-, -, Af, cf, Ac, cc, hb, -⟩ := h
  exact hm.other hb (bag_no8 rfl rfl) (bag_no64 rfl rfl) hc.size fun k hk hne => hc.block k hk hne
theorem RB.lose1 (h : RB w S g F cs lost) : RB (w.setCell ⟨g, 2, none⟩ (.int .i64 ((lost : Int) + 1))) S g F cs (lost + 1) ∧ Chg (GO g) w (w.setCell ⟨g, 2, none⟩ (.int .i64 ((lost : Int) + 1))) := by
  have := h.lose (lost + 1)
  have e : ((lost + 1 : Nat) : Int) = (lost : Int) + 1 := by omega
  rw [e] at this
  exact this
set_option maxRecDepth 100000 in
set_option maxHeartbeats 2000000 in
theorem rbdeliver_no (i : Int) (w : World) (h : RB w S g F cs lost) (hi : ¬ (0 ≤ i ∧ i < (F.length : Int))) :
    Calls Tryd.prog 70 #[.pointer (some ⟨g, 0, none⟩), .int .i64 i] w fun e w' => e = .returned (.tuple #[Msg.zero.v, .int .i64 1]) ∧ Below w.heap.size w w' := by
  have R0 := Blk.new w 41 #[.int .i64 0, .int .i64 0, .int .i64 0, .int .u64 0, .int .u64 0, .int .u64 0, .int .u64 0, .bool false, .slice none 0 0, .slice none 0 0]
  have D0 := (Below.refl w.heap.size w).alloc (Nat.le_refl _) (.cells #[.int .i64 0, .int .i64 0, .int .i64 0, .int .u64 0, .int .u64 0, .int .u64 0, .int .u64 0, .bool false, .slice none 0 0, .slice none 0 0] 41)
  have h0 := h.alloc (.cells #[.int .i64 0, .int .i64 0, .int .i64 0, .int .u64 0, .int .u64 0, .int .u64 0, .int .u64 0, .bool false, .slice none 0 0, .slice none 0 0] 41)
  have hq := rblook_no i _ h0 hi
  have HQ := Lib.hid hq
  have HIN : Hid (∀ W, Below w.heap.size w W → Calls Tryd.prog 75 #[.pointer (some ⟨g, 0, none⟩), .int .i64 i] W fun e w' => e = .returned (.bool false) ∧ W = w') := fun W hW => rbin_any i W (h.after hW) (decide_eq_false hi)
  clear hq hi h h0
  go_enter Tryd.func70, Tryd.ntmps70
  go_wp2_with fail
  refine HQ.out.mono ?_
  rintro e w1 ⟨rfl, hb1⟩
  have R1 := R0.after hb1
  have D1 := D0.trans (hb1.mono D0.size)
  have z1 : w.heap.size < w1.heap.size := R1.lt
  clear R0 D0 hb1 HQ
  simp only [Msg.v, mcells, Msg.zero]
  have R2 := R1.alloc (.cells #[.int .i64 0, .int .i64 0, .int .i64 0, .int .u64 0, .int .u64 0, .int .u64 0, .int .u64 0, .bool false, .slice none 0 0, .slice none 0 0] 41)
  have D2 := D1.alloc D1.size (.cells #[.int .i64 0, .int .i64 0, .int .i64 0, .int .u64 0, .int .u64 0, .int .u64 0, .int .u64 0, .bool false, .slice none 0 0, .slice none 0 0] 41)
  go_wp2_with fail
  refine (HIN.out _ (by first | exact D2 | exact D1.alloc D1.size _)).mono ?_
  rintro e _ ⟨rfl, rfl⟩
  have r0 := R1.cell 0
  have e0 := R1.frozen 0
  have r1 := R1.cell 1
  have e1 := R1.frozen 1
  have r2 := R1.cell 2
  have e2 := R1.frozen 2
  have r3 := R1.cell 3
  have e3 := R1.frozen 3
  have r4 := R1.cell 4
  have e4 := R1.frozen 4
  have r5 := R1.cell 5
  have e5 := R1.frozen 5
  have r6 := R1.cell 6
  have e6 := R1.frozen 6
  have r7 := R1.cell 7
  have e7 := R1.frozen 7
  have r8 := R1.cell 8
  have e8 := R1.frozen 8
  have r9 := R1.cell 9
  have e9 := R1.frozen 9
  simp only [List.getElem?_toArray, List.getElem?_cons_zero, List.getElem?_cons_succ] at r0 r1 r2 r3 r4 r5 r6 r7 r8 r9
  obtain ⟨hg2, hbk0, -, -⟩ := msg_set R1 (.int .i64 0) (.int .i64 0) (.int .i64 0) (.int .u64 0) (.int .u64 0) (.int .u64 0) (.int .u64 0) (.bool false) (.slice none 0 0) (.slice none 0 0)
  have hbk2 := hbk0.alloc (.cells #[.int .i64 0, .int .i64 0, .int .i64 0, .int .u64 0, .int .u64 0, .int .u64 0, .int .u64 0, .bool false, .slice none 0 0, .slice none 0 0] 41)
  have hgg := only_alloc hg2 (.cells #[.int .i64 0, .int .i64 0, .int .i64 0, .int .u64 0, .int .u64 0, .int .u64 0, .int .u64 0, .bool false, .slice none 0 0, .slice none 0 0] 41)
  clear hg2 hbk0
  go_wp2
  obtain ⟨c0, c1, c2, c3, c4, c5, c6, c7, c8, c9⟩ := Blk.c10 hbk2
  exact bodyPost_ret (v := .tuple #[Msg.zero.v, .int .i64 1]) (by simp [results, Tryd.results70, go_sem, Msg.v, mcells, Msg.zero, c0, c1, c2, c3, c4, c5, c6, c7, c8, c9]) rfl ⟨rfl, D1.grown hgg D1.size (fun k e => by cases e; exact Nat.le_refl _)⟩
set_option maxRecDepth 100000 in
set_option maxHeartbeats 4000000 in
theorem rbdeliver_ok (i : Nat) (l : List UInt8) (w : World) (h : RB w S g F cs lost) {fr : RF} (hi : F[i]? = some fr) (hfl : fr.l = l) (hl : l.length ≤ 100000) (hn : F.length ≤ 1000) (hlo : lost < 1000000) {E : Nat} (hE : dER cs l = E) {P : PMsg} (hP : (if E = 0 then unM l else PMsg.zero) = P) {n : Nat} (hN : (if E = 0 then lost else lost + 1) = n) :
    Calls Tryd.prog 70 #[.pointer (some ⟨g, 0, none⟩), .int .i64 (i : Int)] w fun e w' => ∃ (m : Msg) (S' : Nat → Prop), e = .returned (.tuple #[m.v, .int .i64 (E : Int)]) ∧ m.plain = P ∧ IsMsg w' m ∧ RB w' S' g (F.eraseIdx i) cs n ∧ Chg (GO g) w w' ∧ ∀ b, S' b → S b ∨ w.heap.size ≤ b := by
  have HE := Lib.hid hE
  have HP := Lib.hid hP
  have HN := Lib.hid hN
  clear hE hP hN
  have R0 := Blk.new w 41 #[.int .i64 0, .int .i64 0, .int .i64 0, .int .u64 0, .int .u64 0, .int .u64 0, .int .u64 0, .bool false, .slice none 0 0, .slice none 0 0]
  have D0 := (Below.refl w.heap.size w).alloc (Nat.le_refl _) (.cells #[.int .i64 0, .int .i64 0, .int .i64 0, .int .u64 0, .int .u64 0, .int .u64 0, .int .u64 0, .bool false, .slice none 0 0, .slice none 0 0] 41)
  have hin := (List.getElem?_eq_some_iff.1 hi).1
  have HQ := Lib.hid (rblook_ok i l _ (h.alloc (.cells #[.int .i64 0, .int .i64 0, .int .i64 0, .int .u64 0, .int .u64 0, .int .u64 0, .int .u64 0, .bool false, .slice none 0 0, .slice none 0 0] 41)) hi hfl hl)
  have HIN : Hid (∀ W, Below w.heap.size w W → Calls Tryd.prog 75 #[.pointer (some ⟨g, 0, none⟩), .int .i64 (i : Int)] W fun e w' => e = .returned (.bool true) ∧ W = w') := fun W hW => rbin_any (i : Int) W (h.after hW) (decide_eq_true ⟨by omega, by omega⟩)
  have HOUT : Hid (∀ W, Below w.heap.size w W → Calls Tryd.prog 86 #[.pointer (some ⟨g, 0, none⟩), .int .i64 (i : Int)] W fun e w' => ∃ S', e = .returned (.tuple #[]) ∧ RB w' S' g (F.eraseIdx i) cs lost ∧ Chg (GO g) W w' ∧ ∀ b, S' b → S b ∨ W.heap.size ≤ b) := fun W hW => rbout_any i W (h.after hW) hin hn
  have HH := Lib.hid h
  have hgl : g < w.heap.size := h.top g h.gS
  have hw1 : IntKind.i64.wrap ((lost : Int) + 1) = ((lost + 1 : Nat) : Int) := by rw [IntKind.wrap_i64]; omega
  clear h hi hin hfl hl
  go_enter Tryd.func70, Tryd.ntmps70
  go_wp2_with fail
  refine HQ.out.mono ?_
  rintro e w1 ⟨m, rfl, hpl, hmk, hb1⟩
  have R1 := R0.after hb1
  have D1 := D0.trans (hb1.mono D0.size)
  have z1 : w.heap.size < w1.heap.size := R1.lt
  have hmf : m.f = (unM l).f := by rw [← hpl]; rfl
  have hmt : m.t = (unM l).t := by rw [← hpl]; rfl
  clear R0 D0 hb1 HQ
  obtain ⟨k, f, t, te, ix, pr, co, ok, dA, dc, d, eA, ec, es⟩ := m
  simp only [Msg.v, mcells]
  obtain ⟨M, hMd⟩ : ∃ M : Msg, M = ⟨k, f, t, te, ix, pr, co, ok, dA, dc, d, eA, ec, es⟩ := ⟨_, rfl⟩
  have vM : M.v = .agg #[.int .i64 k, .int .i64 f, .int .i64 t, .int .u64 (te : Int), .int .u64 (ix : Int), .int .u64 (pr : Int), .int .u64 (co : Int), .bool ok, .slice dA d.length dc, .slice eA es.length ec] := by rw [hMd]; rfl
  rw [← hMd] at hpl hmk
  obtain ⟨r, hr⟩ : ∃ r, cs.any (same2 f t) = r := ⟨_, rfl⟩
  have HR : Hid (cs.any (same2 (unM l).f (unM l).t) = r) := by show _ = r; rw [← hmf, ← hmt]; exact hr
  have HRF := Lib.hid hr
  clear hmf hmt hr
  generalize hdn : d.length = dn at vM ⊢
  generalize hen : es.length = en at vM ⊢
  clear hdn hen hMd
  have V := Lib.hid vM
  have HPL := Lib.hid hpl
  obtain ⟨E0, hE0⟩ : ∃ E, unE l = E := ⟨_, rfl⟩
  rw [hE0]
  have HE0 := Lib.hid hE0
  have QB := Blk.new w1 41 #[.int .i64 k, .int .i64 f, .int .i64 t, .int .u64 (te : Int), .int .u64 (ix : Int), .int .u64 (pr : Int), .int .u64 (co : Int), .bool ok, .slice dA dn dc, .slice eA en ec]
  have R2 := R1.alloc (.cells #[.int .i64 k, .int .i64 f, .int .i64 t, .int .u64 (te : Int), .int .u64 (ix : Int), .int .u64 (pr : Int), .int .u64 (co : Int), .bool ok, .slice dA dn dc, .slice eA en ec] 41)
  have D2 := D1.alloc D1.size (.cells #[.int .i64 k, .int .i64 f, .int .i64 t, .int .u64 (te : Int), .int .u64 (ix : Int), .int .u64 (pr : Int), .int .u64 (co : Int), .bool ok, .slice dA dn dc, .slice eA en ec] 41)
  have HK2 := Lib.hid (hmk.alloc (.cells #[.int .i64 k, .int .i64 f, .int .i64 t, .int .u64 (te : Int), .int .u64 (ix : Int), .int .u64 (pr : Int), .int .u64 (co : Int), .bool ok, .slice dA dn dc, .slice eA en ec] 41))
  clear vM hpl hE0 R1 D1 hmk
  go_wp2_with fail
  refine (HIN.out _ D2).mono ?_
  rintro e _ ⟨rfl, rfl⟩
  go_wp2_with fail
  refine (HOUT.out _ D2).mono ?_
  rintro e w3 ⟨S3, rfl, hB3, hC3, hS3⟩
  have R3 := R2.chg hC3 (fun hk => by have hk' : w.heap.size = g := hk; omega)
  have Q3 := QB.chg hC3 (fun hk => by have hk' : w1.heap.size = g := hk; omega)
  have HM3 := Lib.hid ((HH.out.after D2).msg HK2.out hC3)
  have HC3 := Lib.hid ((Chg.below D2).same hC3)
  have HB3 := Lib.hid hB3
  have HS3 : Hid (∀ b, S3 b → S b ∨ w.heap.size ≤ b) := fun b hb => (hS3 b hb).imp id (fun h => Nat.le_trans D2.size h)
  have HAP := Lib.hid (rbapart_any f t w3 hB3 HRF.out)
  have q1 : w3.cell? ⟨w1.heap.size, 1, none⟩ = some (.int .i64 f) := Q3.cell 1
  have q2 : w3.cell? ⟨w1.heap.size, 2, none⟩ = some (.int .i64 t) := Q3.cell 2
  have HNS : Hid (¬ S3 w.heap.size) := fun hk => by rcases hS3 _ hk with h1 | h1; have := HH.out.top _ h1; omega; rw [alloc_size] at h1; omega
  clear R2 QB D2 HK2 HIN HOUT hB3 hC3 hS3
  go_wp2_with fail
  refine HAP.out.mono ?_
  rintro e _ ⟨rfl, rfl⟩
  clear HAP q1 q2
  have hRg : w.heap.size ≠ g := by omega
  have hgR : g ≠ w.heap.size := by omega
  have r0 := R3.cell 0
  have e0 := R3.frozen 0
  have r1 := R3.cell 1
  have e1 := R3.frozen 1
  have r2 := R3.cell 2
  have e2 := R3.frozen 2
  have r3 := R3.cell 3
  have e3 := R3.frozen 3
  have r4 := R3.cell 4
  have e4 := R3.frozen 4
  have r5 := R3.cell 5
  have e5 := R3.frozen 5
  have r6 := R3.cell 6
  have e6 := R3.frozen 6
  have r7 := R3.cell 7
  have e7 := R3.frozen 7
  have r8 := R3.cell 8
  have e8 := R3.frozen 8
  have r9 := R3.cell 9
  have e9 := R3.frozen 9
  simp only [List.getElem?_toArray, List.getElem?_cons_zero, List.getElem?_cons_succ] at r0 r1 r2 r3 r4 r5 r6 r7 r8 r9
  by_cases h0 : E0 = 0
  · subst h0
    cases r with
    | false =>
      have hdE : dER cs l = 0 := by
        unfold dER
        rw [if_pos HE0.out, HR.out]
        rfl
      have HDE := Lib.hid hdE
      clear hdE
      obtain ⟨m0, m1, m2, m3, m4, m5, m6, m7, m8, m9⟩ := Q3.c10
      go_wp2
      obtain ⟨hg2, hbk2, -, -⟩ := msg_set R3 (.int .i64 k) (.int .i64 f) (.int .i64 t) (.int .u64 (te : Int)) (.int .u64 (ix : Int)) (.int .u64 (pr : Int)) (.int .u64 (co : Int)) (.bool ok) (.slice dA dn dc) (.slice eA en ec)
      obtain ⟨c0, c1, c2, c3, c4, c5, c6, c7, c8, c9⟩ := Blk.c10 hbk2
      refine bodyPost_ret (v := .tuple #[M.v, .int .i64 0]) (by rw [V.out]; simp [results, Tryd.results70, go_sem, c0, c1, c2, c3, c4, c5, c6, c7, c8, c9]) rfl ⟨M, S3, by rw [← HE.out, HDE.out]; rfl, by rw [← HP.out, ← HE.out, if_pos HDE.out]; exact HPL.out, HM3.out.other R3 (msg_no8 rfl rfl) (msg_no64 rfl rfl) hg2.size (fun k hk hne => hg2.block k hk (fun e => hne (by injection e))), ?_, HC3.out.new_ hg2 (Nat.le_refl _), HS3.out⟩
      rw [← HN.out, ← HE.out, if_pos HDE.out]
      exact HB3.out.keep hg2.size (fun b hS => hg2.block b (HB3.out.top b hS) (fun e => by injection e with e; exact HNS.out (e ▸ hS)))
    | true =>
      have hdE : dER cs l = 50 := by
        unfold dER
        rw [if_pos HE0.out, HR.out]
        rfl
      have HDE := Lib.hid hdE
      clear hdE
      obtain ⟨l1, l2⟩ := HB3.out.lose1
      have L1 := Lib.hid l1
      have L2 := Lib.hid l2
      have R5 := R3.far (p := ⟨g, 2, none⟩) hRg (.int .i64 ((lost : Int) + 1))
      obtain ⟨vf, vc, hb5⟩ := HB3.out.blk
      obtain ⟨y0, y1, y2⟩ := hb5.c3
      have f2 := hb5.frozen 2
      clear hb5 l1 l2 y0 y1
      go_wp2
      obtain ⟨hg2, hbk2, -, -⟩ := msg_set R5 (.int .i64 0) (.int .i64 0) (.int .i64 0) (.int .u64 0) (.int .u64 0) (.int .u64 0) (.int .u64 0) (.bool false) (.slice none 0 0) (.slice none 0 0)
      obtain ⟨c0, c1, c2, c3, c4, c5, c6, c7, c8, c9⟩ := Blk.c10 hbk2
      have hz : dER cs l ≠ 0 := by rw [HDE.out]; decide
      refine bodyPost_ret (v := .tuple #[Msg.zero.v, .int .i64 50]) (by simp [results, Tryd.results70, go_sem, c0, c1, c2, c3, c4, c5, c6, c7, c8, c9, Msg.v, mcells, Msg.zero]) rfl ⟨Msg.zero, S3, by rw [← HE.out, HDE.out]; rfl, by rw [← HP.out, ← HE.out, if_neg hz]; rfl, isMsg_zero _, ?_, (HC3.out.same L2.out).new_ hg2 (Nat.le_refl _), HS3.out⟩
      rw [← HN.out, ← HE.out, if_neg hz]
      exact L1.out.keep hg2.size (fun b hS => hg2.block b (L1.out.top b hS) (fun e => by injection e with e; exact HNS.out (e ▸ hS)))
  · have hdE : dER cs l = E0 := by
      unfold dER
      rw [if_neg (by rw [HE0.out]; exact h0), HE0.out]
    have HDE := Lib.hid hdE
    clear hdE
    have k1 : ((E0 : Int) == 0) = false := by simp; omega
    have k2 : ((E0 : Int) != 0) = true := bne_iff_ne.2 (by omega)
    cases r
    all_goals
      obtain ⟨l1, l2⟩ := HB3.out.lose1
      have L1 := Lib.hid l1
      have L2 := Lib.hid l2
      have R5 := R3.far (p := ⟨g, 2, none⟩) hRg (.int .i64 ((lost : Int) + 1))
      obtain ⟨vf, vc, hb5⟩ := HB3.out.blk
      obtain ⟨y0, y1, y2⟩ := hb5.c3
      have f2 := hb5.frozen 2
      clear hb5 l1 l2 y0 y1
      go_wp2
      obtain ⟨hg2, hbk2, -, -⟩ := msg_set R5 (.int .i64 0) (.int .i64 0) (.int .i64 0) (.int .u64 0) (.int .u64 0) (.int .u64 0) (.int .u64 0) (.bool false) (.slice none 0 0) (.slice none 0 0)
      obtain ⟨c0, c1, c2, c3, c4, c5, c6, c7, c8, c9⟩ := Blk.c10 hbk2
      have hz : dER cs l ≠ 0 := by rw [HDE.out]; exact h0
      refine bodyPost_ret (v := .tuple #[Msg.zero.v, .int .i64 (E0 : Nat)]) (by simp [results, Tryd.results70, go_sem, c0, c1, c2, c3, c4, c5, c6, c7, c8, c9, Msg.v, mcells, Msg.zero]) rfl ⟨Msg.zero, S3, by rw [← HE.out, HDE.out], by rw [← HP.out, ← HE.out, if_neg hz]; rfl, isMsg_zero _, ?_, (HC3.out.same L2.out).new_ hg2 (Nat.le_refl _), HS3.out⟩
      rw [← HN.out, ← HE.out, if_neg hz]
      exact L1.out.keep hg2.size (fun b hS => hg2.block b (L1.out.top b hS) (fun e => by injection e with e; exact HNS.out (e ▸ hS)))
end
end Go.Proofs.YtciolppoanfiaaaDoor

/- Spoil: the document's bag; the program's where it refuses. -/
namespace Go.Proofs.YtciolppoanfiaaaDoor
open Go.RowKit Go.ChangeMaps
/-- a row of the call's own, some of its cells written -/
theorem own_setCells {w : World} {base e size n g c : Nat} {A : Option Addr} {xs : List Value} (h : w.ownsRow base e size (.slice A n c) n xs) (hA : A = some ⟨g, 0, none⟩) (o : Nat) (vs : List Value) (ho : o + vs.length ≤ n * size) :
    (w.setCells g o vs).ownsRow base e size (.slice A n c) n (xs.take o ++ vs ++ xs.drop (o + vs.length)) := by
  subst hA
  rcases h.2 with ⟨h', _⟩ | ⟨g', cap, cur, hv, h1, hh, h2, h3, h4, h5⟩
  · cases h'
  · simp only [Value.slice.injEq, Option.some.injEq, Addr.mk.injEq, and_true, true_and] at hv
    obtain ⟨rfl, rfl⟩ := hv
    obtain ⟨c1, k1, k2, k3⟩ := heap_setCells_at vs o w cur hh
    have hx : xs.length = n * size := h.1
    have hcsz : n * size ≤ cur.size := by
      have := congrArg List.length h5
      rw [List.length_take, Array.length_toList, hx] at this
      omega
    refine ⟨by simp; omega, .inr ⟨g, c, c1, rfl, h1, k1, h2, h3, by rw [k2]; exact h4, ?_⟩⟩
    apply List.ext_getElem?
    intro j
    rw [List.getElem?_take]
    by_cases hj : j < n * size
    · rw [if_pos hj, Array.getElem?_toList, k3 j (by omega)]
      have hxj : cur[j]? = xs[j]? := by rw [← h5, List.getElem?_take, if_pos hj, Array.getElem?_toList]
      by_cases hjo : o ≤ j ∧ j < o + vs.length
      · rw [if_pos hjo, List.append_assoc, List.getElem?_append_right (by simp; omega), List.getElem?_append_left (by simp; omega)]
        congr 1
        simp; omega
      · rw [if_neg hjo, hxj]
        by_cases hlt : j < o
        · rw [List.append_assoc, List.getElem?_append_left (by simp; omega), List.getElem?_take, if_pos hlt]
        · rw [List.getElem?_append_right (by simp; omega), List.getElem?_drop]
          congr 1
          simp; omega
    · rw [if_neg hj, List.getElem?_eq_none (by simp; omega)]
theorem own_at {w : World} {base size n : Nat} {e : TypeId} {v : Value} {xs : List Value} (h : w.ownsRow base e size v n xs) (hn : 0 < n) : ∃ g c, v = .slice (some ⟨g, 0, none⟩) n c ∧ base ≤ g ∧ g < w.heap.size ∧ Sl w g (g + 1) size (some ⟨g, 0, none⟩) n c xs := by
  rcases h.2 with ⟨_, h0⟩ | ⟨g, cap, cur, rfl, hb, hg, hnc, hm, hs, ht⟩
  · omega
  · exact ⟨g, cap, rfl, hb, (h.lt g rfl).2, h.1, hnc, hm, fun _ => ⟨_, rfl, Nat.le_refl _, Nat.lt_succ_self _, h.cells (g := g) rfl⟩⟩
theorem own_set1 {w : World} {base e n g c i : Nat} {A : Option Addr} {xs : List Value} (h : w.ownsRow base e 1 (.slice A n c) n xs) (hA : A = some ⟨g, 0, none⟩) (hi : i < n) (u : Value) : (w.setCell ⟨g, i, none⟩ u).ownsRow base e 1 (.slice A n c) n (xs.set i u) := by
  have hl : xs.length = n := by have := h.1; omega
  have := own_setCells h hA i [u] (by simp; omega)
  rw [List.set_eq_take_append_cons_drop, if_pos (by omega)]
  simpa [World.setCells] using this
section
variable {H : Nat} {w : World} {O : Nat → Prop} {g : Nat} {fs : List (List UInt8)} {ks : List (Int × Int)} {lost : Nat}
set_option maxRecDepth 100000 in
theorem bspoil_no (i bit : Int) (w : World) (h : BagAt H w O g fs ks lost) (hi : ¬ (0 ≤ i ∧ i < (fs.length : Int))) :
    Calls Tryd.prog 64 #[.pointer (some ⟨g, 0, none⟩), .int .i64 i, .int .i64 bit] w fun e w' => e = .returned (.int .i64 1) ∧ w = w' := by
  have HC := Lib.hid (bhas_any i _ h (decide_eq_false hi))
  clear h hi
  go_enter Tryd.func64, Tryd.ntmps64
  go_wp2_with fail
  refine HC.out.mono ?_
  rintro e _ ⟨rfl, rfl⟩
  go_wp2
  go_ret
  exact ⟨rfl, rfl⟩
set_option maxRecDepth 100000 in
set_option maxHeartbeats 2000000 in
theorem bspoil_bad (i : Nat) (bit : Int) (l : List UInt8) (w : World) (h : BagAt H w O g fs ks lost) (hi : fs[i]? = some l) (hb : bit < 0 ∨ 8 * (l.length : Int) ≤ bit) (h63 : bit ≤ 9223372036854775807) :
    Calls Tryd.prog 64 #[.pointer (some ⟨g, 0, none⟩), .int .i64 (i : Int), .int .i64 bit] w fun e w' => e = .returned (.int .i64 1) ∧ w = w' := by
  have hin := (List.getElem?_eq_some_iff.1 hi).1
  have HC := Lib.hid (bhas_any (i : Int) _ h (b := true) (decide_eq_true (by omega)))
  obtain ⟨ad, c, mb, F, fr, hbk, hmO, hm, hF, hfs, hFi, hfl, hcap, hmax, hcell⟩ := h.at_ hi
  obtain ⟨x0, x1, x2⟩ := hbk.c3
  simp only [Fr.v] at hcell
  rw [hfl] at hcell
  clear hF hfs hFi hm hmO hbk h
  obtain ⟨ln, hln⟩ : ∃ n, l.length = n := ⟨_, rfl⟩
  rw [hln] at hb hcell
  generalize fs.length = n at x0 hcap hin
  clear hi hfl hln
  by_cases h0 : bit < 0
  · have k1 : decide (bit < 0) = true := decide_eq_true h0
    clear hb h0
    go_enter Tryd.func64, Tryd.ntmps64
    go_wp2_with fail
    refine HC.out.mono ?_
    rintro e _ ⟨rfl, rfl⟩
    go_wp2
    go_ret
    exact ⟨rfl, rfl⟩
  · obtain ⟨q, rfl⟩ : ∃ q : Nat, bit = (q : Int) := ⟨bit.toNat, by omega⟩
    have k1 : decide ((q : Int) < 0) = false := decide_eq_false h0
    have hq : (q : Int) / 8 = ((q / 8 : Nat) : Int) := by omega
    have hqt : (q : Int).tdiv 8 = ((q / 8 : Nat) : Int) := by rw [Int.tdiv_eq_ediv_of_nonneg (by omega)]; exact hq
    have k2 : decide (ln ≤ q / 8) = true := decide_eq_true (by omega)
    have k3 : decide ((ln : Int) ≤ ((q / 8 : Nat) : Int)) = true := decide_eq_true (by omega)
    have k4 : q / 8 ≤ 1152921504606846976 := by omega
    have k5 : ln ≤ q / 8 := by omega
    clear hb h0
    generalize q / 8 = qq at *
    go_enter Tryd.func64, Tryd.ntmps64
    go_wp2_with fail
    refine HC.out.mono ?_
    rintro e _ ⟨rfl, rfl⟩
    go_wp2
    go_ret
    exact ⟨rfl, rfl⟩
end
section
variable {w w1 : World} {S S' : Nat → Prop} {g : Nat} {F : List RF} {cs : List (Int × Int)} {lost : Nat}
set_option maxRecDepth 100000 in
theorem rbspoil_no (i bit : Int) (w : World) (h : RB w S g F cs lost) (hi : ¬ (0 ≤ i ∧ i < (F.length : Int))) :
    Calls Tryd.prog 73 #[.pointer (some ⟨g, 0, none⟩), .int .i64 i, .int .i64 bit] w fun e w' => e = .returned (.int .i64 1) ∧ w = w' := by
  have HC := Lib.hid (rbin_any i w h (decide_eq_false hi))
  clear h hi
  go_enter Tryd.func73, Tryd.ntmps73
  go_wp2_with fail
  refine HC.out.mono ?_
  rintro e _ ⟨rfl, rfl⟩
  go_wp2
  go_ret
  exact ⟨rfl, rfl⟩
theorem RB.at_ (h : RB w S g F cs lost) {i : Nat} {f : RF} (hi : F[i]? = some f) : ∃ (ad : Addr) (cf : Nat) (Ac : Option Addr) (cc : Nat), Blk w g 60 #[.slice (some ad) F.length cf, .slice Ac cs.length cc, .int .i64 (lost : Int)] ∧ Lie w S g 1 (some ad) F.length cf (F.map RF.v) ∧ Lie w S g 2 Ac cs.length cc (ccells cs) ∧ Lie w S g 1 f.A f.l.length f.c (f.l.map bv) ∧ F.length ≤ cf ∧ cf ≤ 9223372036854775807 ∧ w.cell? (ad.add i) = some (.slice f.A f.l.length f.c) := by
  obtain ⟨-, -, Af, cf, Ac, cc, hb, hlf, hlc, hfr⟩ := h
  obtain ⟨ad, u, rfl, hu, hcell⟩ := hlf.1.nth (List.getElem?_eq_some_iff.1 hi).1
  rw [List.getElem?_map, hi] at hu
  obtain rfl : f.v = u := by simpa using hu
  exact ⟨ad, cf, Ac, cc, hb, hlf, hlc, hfr f (List.mem_of_getElem? hi), hlf.1.cap, hlf.1.max, hcell⟩
set_option maxRecDepth 100000 in
set_option maxHeartbeats 2000000 in
theorem rbspoil_bad (i : Nat) (bit : Int) (l : List UInt8) (w : World) (h : RB w S g F cs lost) {f : RF} (hi : F[i]? = some f) (hfl : f.l = l) (hl : l.length ≤ 100000) (hb : bit < 0 ∨ 8 * (l.length : Int) ≤ bit) :
    Calls Tryd.prog 73 #[.pointer (some ⟨g, 0, none⟩), .int .i64 (i : Int), .int .i64 bit] w fun e w' => e = .returned (.int .i64 1) ∧ w = w' := by
  have hin := (List.getElem?_eq_some_iff.1 hi).1
  have HC := Lib.hid (rbin_any (i : Int) w h (decide_eq_true ⟨by omega, by omega⟩))
  obtain ⟨ad, cf, Ac, cc, hbk, -, -, -, hcap, hmax, hcell⟩ := h.at_ hi
  obtain ⟨x0, x1, x2⟩ := hbk.c3
  rw [hfl] at hcell
  obtain ⟨fA, hfA⟩ : ∃ x, f.A = x := ⟨_, rfl⟩
  obtain ⟨fc, hfc⟩ : ∃ x, f.c = x := ⟨_, rfl⟩
  rw [hfA, hfc] at hcell
  obtain ⟨ln, hln⟩ : ∃ n, l.length = n := ⟨_, rfl⟩
  rw [hln] at hb hcell hl
  generalize F.length = n at x0 hcap hin
  have hw : IntKind.i64.wrap (8 * (ln : Int)) = 8 * (ln : Int) := by rw [IntKind.wrap_i64]; omega
  clear hi hfl hln hfA hfc hbk h
  by_cases h0 : bit < 0
  · have k1 : decide (bit < 0) = true := decide_eq_true h0
    clear hb h0
    go_enter Tryd.func73, Tryd.ntmps73
    go_wp2_with fail
    refine HC.out.mono ?_
    rintro e _ ⟨rfl, rfl⟩
    go_wp2
    go_ret
    exact ⟨rfl, rfl⟩
  · have k1 : decide (bit < 0) = false := decide_eq_false h0
    have k2 : decide (8 * (ln : Int) ≤ bit) = true := decide_eq_true (by omega)
    clear hb h0
    go_enter Tryd.func73, Tryd.ntmps73
    go_wp2_with fail
    refine HC.out.mono ?_
    rintro e _ ⟨rfl, rfl⟩
    go_wp2
    go_ret
    exact ⟨rfl, rfl⟩
set_option maxRecDepth 100000 in
set_option maxHeartbeats 6400000 in
theorem rbspoil_ok (i bit : Nat) (l : List UInt8) (w : World) (h : RB w S g F cs lost) {f : RF} (hi : F[i]? = some f) (hfl : f.l = l) (hb : bit / 8 < l.length) (hl : l.length ≤ 100000) (hn : F.length ≤ 1000) :
    Calls Tryd.prog 73 #[.pointer (some ⟨g, 0, none⟩), .int .i64 (i : Int), .int .i64 (bit : Int)] w fun e w' => ∃ (f' : RF) (S' : Nat → Prop), e = .returned (.int .i64 0) ∧ f'.l = l.set (bit / 8) (spB (l.getD (bit / 8) 0) (bit % 8)) ∧ RB w' S' g (F.set i f') cs lost ∧ Chg (GO g) w w' ∧ ∀ b, S' b → S b ∨ w.heap.size ≤ b := by
  obtain ⟨i0, hi0, hz0, hz1, hz2⟩ := info_parts row_info
  obtain ⟨j0, hj0, hy0, hy1, hy2⟩ := info_parts u8_info
  have hin := (List.getElem?_eq_some_iff.1 hi).1
  have HC := Lib.hid (rbin_any (i : Int) w h (decide_eq_true ⟨by omega, by omega⟩))
  have HH := Lib.hid h
  obtain ⟨ad, cf, Ac, cc, hbk, hlf, hlc, hfr, hcap, hmax, hcell⟩ := h.at_ hi
  obtain ⟨x0, x1, x2⟩ := hbk.c3
  have f0 := hbk.frozen 0
  have hgl := hbk.lt
  rw [hfl] at hcell hfr
  obtain ⟨b, hbv⟩ : ∃ b, l.getD (bit / 8) 0 = b := ⟨_, rfl⟩
  have hlb : l[bit / 8]? = some b := by rw [← hbv, List.getD_eq_getElem?_getD, List.getElem?_eq_getElem hb]; rfl
  have hxv := spB_val b (bit % 8) (Nat.mod_lt _ (by decide))
  have HBV := Lib.hid hbv
  have hq : (bit : Int) / 8 = ((bit / 8 : Nat) : Int) := by omega
  have hr : (bit : Int) % 8 = ((bit % 8 : Nat) : Int) := by omega
  have hr8 : bit % 8 < 8 := by omega
  have k1 : decide ((bit : Int) < 0) = false := decide_eq_false (by omega)
  obtain ⟨fA, hfA⟩ : ∃ x, f.A = x := ⟨_, rfl⟩
  obtain ⟨fc, hfc⟩ : ∃ x, f.c = x := ⟨_, rfl⟩
  rw [hfA, hfc] at hcell hfr
  obtain ⟨ln, hln⟩ : ∃ n, l.length = n := ⟨_, rfl⟩
  have HLN := Lib.hid hln
  rw [hln] at hb hcell hl hfr
  have hw : IntKind.i64.wrap (8 * (ln : Int)) = 8 * (ln : Int) := by rw [IntKind.wrap_i64]; omega
  have k2 : decide (8 * (ln : Int) ≤ (bit : Int)) = false := decide_eq_false (by omega)
  have hbl : bit < 1000000 := by omega
  obtain ⟨n, hnn⟩ : ∃ n, F.length = n := ⟨_, rfl⟩
  have HN := Lib.hid hnn
  have HBK := Lib.hid hbk
  have HLC := Lib.hid hlc
  have hsf := hlf.1
  rw [hnn] at x0 hcap hin hsf hn
  have HSF := Lib.hid hsf
  have HFR := Lib.hid hfr.1
  have HLB := Lib.hid hlb
  generalize bit / 8 = q at *
  generalize bit % 8 = r at *
  clear hbv hfl hln hnn hi h hbk hlf hlc hfr hsf hlb hfA hfc
  go_enter Tryd.func73, Tryd.ntmps73
  go_wp2_with fail
  refine HC.out.mono ?_
  rintro e _ ⟨rfl, rfl⟩
  clear HC
  have p0 := cell_belowR ((Below.refl w.heap.size w).alloc (Nat.le_refl _) (.cells #[] 5)) hcell
  go_upto_region 5 with (at_builtin; refine wpList_app _ rfl (.tmp 32) (.tmp 39) 22 rfl w.heap.size 5 j0 _ 1 1 Tryd.underlying22 hj0 hy0 hy1 hy2 rfl (by omega) (.slice (some ⟨w.heap.size, 0, none⟩) 0 0) 0 [] rfl (by exact own_empty w _ 1 _ rfl) _ _ fA ln fc (l.map bv) rfl (HFR.out.alloc (by decide) _) (by intro u hu; obtain ⟨z, -, rfl⟩ := List.mem_map.1 hu; rfl) (by simp only [maxLen]; omega) (by omega) (by simp) ?_; intro v4 w4 o4 g4 a4)
  have D4 : Below w.heap.size w w4 := ((Below.refl _ w).alloc (Nat.le_refl _) _).grown g4 (by simp) (fun k hk => by have h' : some w.heap.size = some k := hk; injection h' with h'; omega)
  obtain ⟨b4, c4, hv4, hb4, hb4l, hs4⟩ := own_at o4 (by omega)
  subst hv4
  simp only [Nat.zero_add, List.nil_append] at o4 hs4
  have hcap4 := hs4.cap
  have hmax4 := hs4.max
  have hbyte : w4.cell? ⟨b4, q, none⟩ = some (.int .u8 (b.toNat : Int)) := by
    obtain ⟨ad', e', -, -, hc'⟩ := hs4.at_ (by omega)
    injection e' with e'
    subst e'
    have := hc' q (bv b) (by rw [List.getElem?_map, HLB.out]; rfl)
    rwa [addr0] at this
  have hfz : w4.frozen? ⟨b4, q, none⟩ = false := by
    rcases o4.2 with ⟨hv, _⟩ | ⟨b', cap, cur, hv, _, hh, _⟩
    · cases hv
    · have e : b4 = b' := by injection hv with e; injection e with e; injection e
      subst e
      simp [World.frozen?, hh]
  have HO4 := Lib.hid o4
  have HD4 := Lib.hid D4
  clear a4 g4 o4 hs4 D4 p0
  go_big_region
  have hrow5 : World.ownsRow ((w4.setCell ⟨b4, q, none⟩ (.int .u8 ((spB b r).toNat : Int))).drew) w.heap.size 5 1 (.slice (some ⟨b4, 0, none⟩) ln c4) ln ((l.set q (spB b r)).map bv) := by
    have := own_set1 HO4.out rfl hb (bv (spB b r))
    rw [← List.map_set] at this
    exact this
  have D5 : Below w.heap.size w ((w4.setCell ⟨b4, q, none⟩ (.int .u8 ((spB b r).toNat : Int))).drew) := (HD4.out.setCell (p := ⟨b4, q, none⟩) hb4 _).drew
  generalize (w4.setCell ⟨b4, q, none⟩ (.int .u8 ((spB b r).toNat : Int))).drew = w5 at hrow5 D5 ⊢
  have y0 := cell_belowR D5 x0
  have y1 := cell_belowR D5 x1
  have HR5 := Lib.hid hrow5
  have HD5 := Lib.hid D5
  have hg5 : g < w5.heap.size := Nat.lt_of_lt_of_le hgl D5.size
  have hs5 := D5.size
  clear hxv hbyte hfz hrow5 D5 x0 x1 x2 f0 hcell hq hr hr8 k1 k2 hw
  go_upto_region 7 with (at_builtin; refine wpList_app _ rfl (.tmp 54) (.tmp 58) 34 rfl w5.heap.size 22 i0 _ 1 24 Tryd.underlying34 hi0 hz0 hz1 hz2 rfl (by omega) (.slice (some ⟨w5.heap.size, 0, none⟩) 0 0) 0 [] rfl (by exact own_empty w5 _ 1 _ rfl) _ _ (some ad) n cf (F.map RF.v) rfl ((HSF.out.after (by decide) HD5.out).alloc (by decide) _) (rf_one F) (by simp only [maxLen]; omega) (by omega) (by simp) ?_; intro v6 w6 o6 g6 a6)
  have D6 : Below w5.heap.size w5 w6 := ((Below.refl _ w5).alloc (Nat.le_refl _) _).grown g6 (by simp) (fun k hk => by have h' : some w5.heap.size = some k := hk; injection h' with h'; omega)
  obtain ⟨b6, c6, hv6, hb6, hb6l, hs6⟩ := own_at o6 (by omega)
  subst hv6
  simp only [Nat.zero_add, List.nil_append] at o6 hs6
  have hcap6 := hs6.cap
  have hmax6 := hs6.max
  obtain ⟨old, hold⟩ : ∃ old, w6.cell? ⟨b6, i, none⟩ = some old := by
    obtain ⟨ad', u', e', -, hc'⟩ := hs6.nth hin
    injection e' with e'
    subst e'
    rw [addr0] at hc'
    exact ⟨u', hc'⟩
  have hfz6 : w6.frozen? ⟨b6, i, none⟩ = false := by
    rcases o6.2 with ⟨hv, _⟩ | ⟨b', cap, cur, hv, _, hh, _⟩
    · cases hv
    · have e : b6 = b' := by injection hv with e; injection e with e; injection e
      subst e
      simp [World.frozen?, hh]
  have z0 := cell_belowR D6 y0
  have hbk6 := (HBK.out.after HD5.out).after D6
  have zf0 := hbk6.frozen 0
  have hne6 : g ≠ b6 := by omega
  have hne6' : b6 ≠ g := by omega
  have HO6 := Lib.hid o6
  have HD6 := Lib.hid D6
  have HBK6 := Lib.hid hbk6
  clear a6 g6 o6 hs6 D6 hbk6 y0 y1
  go_wp2
  go_ret
  have hgw := HH.out.top g HH.out.gS
  have hD6' : Below w.heap.size w (w6.setCell ⟨b6, i, none⟩ (.slice (some ⟨b4, 0, none⟩) ln c4)) := (HD5.out.trans (HD6.out.mono hs5)).setCell (p := ⟨b6, i, none⟩) (by show w.heap.size ≤ b6; omega) _
  have hch : Chg (GO g) w ((w6.setCell ⟨b6, i, none⟩ (.slice (some ⟨b4, 0, none⟩) ln c4)).setCell ⟨g, 0, none⟩ (.slice (some ⟨b6, 0, none⟩) n c6)) := (Chg.below hD6').same (Chg.grown (only_setCell (World.grownBy.refl _ (some g)) 0 _) fun k e => by injection e with e; exact .inl e.symm)
  have hfl' : (l.set q (spB b r)).length = ln := by rw [List.length_set, HLN.out]
  have hrow6 := own_set1 HO6.out rfl hin (.slice (some ⟨b4, 0, none⟩) ln c4)
  have hmap : (F.map RF.v).set i (.slice (some ⟨b4, 0, none⟩) ln c4) = (F.set i ⟨some ⟨b4, 0, none⟩, c4, l.set q (spB b r)⟩).map RF.v := by
    rw [List.map_set]
    show _ = (F.map RF.v).set i (Value.slice (some ⟨b4, 0, none⟩) (l.set q (spB b r)).length c4)
    rw [hfl']
  rw [hmap] at hrow6
  have hng6 : (Value.slice (some ⟨b6, 0, none⟩) n c6).ownBlock ≠ some g := by
    intro e
    have e' : b6 = g := by simpa [Value.ownBlock] using e
    omega
  have hbyt : World.ownsRow ((w6.setCell ⟨b6, i, none⟩ (.slice (some ⟨b4, 0, none⟩) ln c4)).setCell ⟨g, 0, none⟩ (.slice (some ⟨b6, 0, none⟩) n c6)) w.heap.size 5 1 (.slice (some ⟨b4, 0, none⟩) ln c4) ln ((l.set q (spB b r)).map bv) := by
    have hb45 := (HR5.out.lt b4 rfl).2
    refine own_far (own_far (own_after HR5.out HD6.out) (fun e => ?_) i _) (fun e => ?_) 0 _
    · have e' : b4 = b6 := by simpa [Value.ownBlock] using e
      omega
    · have e' : b4 = g := by simpa [Value.ownBlock] using e
      omega
  have hlen : (F.set i ⟨some ⟨b4, 0, none⟩, c4, l.set q (spB b r)⟩).length = n := by rw [List.length_set, HN.out]
  obtain ⟨S', q1, q2⟩ := HH.out.turn (F' := F.set i ⟨some ⟨b4, 0, none⟩, c4, l.set q (spB b r)⟩) (cs' := cs) (lost' := lost) (Af := some ⟨b6, 0, none⟩) (cf := c6) (Ac := Ac) (cc := cc) hch
    (by rw [hlen]; have := (HBK6.out.far (p := ⟨b6, i, none⟩) hne6 (.slice (some ⟨b4, 0, none⟩) ln c4)).set_ 0 (.slice (some ⟨b6, 0, none⟩) n c6); simpa using this)
    (by rw [hlen]; exact HH.out.made (own_far hrow6 hng6 0 _) hs5) (HH.out.kept hch HLC.out) (fun x hx => by
      rcases List.mem_or_eq_of_mem_set hx with hx | hx
      · exact .inl hx
      · subst hx
        refine .inr ?_
        show Lie _ _ g 1 (some ⟨b4, 0, none⟩) (l.set q (spB b r)).length c4 _
        rw [hfl']
        exact HH.out.made hbyt (Nat.le_refl _))
  exact ⟨⟨some ⟨b4, 0, none⟩, c4, l.set q (spB b r)⟩, S', rfl, by rw [HBV.out], q1, hch, q2⟩
end
end Go.Proofs.YtciolppoanfiaaaDoor
