/- wire.Unpack and the document's Unpack. -/
import Derived.Test.YtciolppoanfiaaaDoorXRefDec
import Derived.Test.YtciolppoanfiaaaDoorWRefTake
namespace Go.Proofs.YtciolppoanfiaaaDoor
open Go.RowKit
def unE (l : List UInt8) : Nat := if takeE l = 0 then decC (tP l) else takeE l
def unM (l : List UInt8) : PMsg := if takeE l = 0 then decM (tP l) else PMsg.zero
def unR (l : List UInt8) : List UInt8 := if unE l = 0 then tR l else []
theorem tP_len (l : List UInt8) : (tP l).length ≤ l.length := by
  unfold tP takeP
  split
  · rw [List.length_take, List.length_drop]; omega
  · simp
theorem unR_bad {l : List UInt8} (h : unE l ≠ 0) : unR l = [] := by unfold unR; rw [if_neg h]
theorem unM_bad {l : List UInt8} (h : takeE l ≠ 0) : unM l = PMsg.zero := by unfold unM; rw [if_neg h]
theorem unE_bad {l : List UInt8} (h : takeE l ≠ 0) : unE l = takeE l := by unfold unE; rw [if_neg h]
theorem unE_go {l : List UInt8} (h : takeE l = 0) : unE l = decC (tP l) := by unfold unE; rw [if_pos h]
theorem unM_go {l : List UInt8} (h : takeE l = 0) : unM l = decM (tP l) := by unfold unM; rw [if_pos h]
theorem takeE_lt (l : List UInt8) : takeE l < 100 := by
  unfold takeE
  repeat' split
  all_goals omega
set_option maxRecDepth 100000 in
set_option maxHeartbeats 1000000 in
theorem unpack_any {v : Value} {l : List UInt8} (w : World) {lo hi : Nat} (ha : BytesIn w lo hi v l) (hh : hi ≤ w.heap.size) (hT : Tab w) (hT0 : 0 < w.heap.size) (hl : l.length ≤ 100000) :
    Calls Tryd.prog 29 #[v] w fun e w' => ∃ (m : Msg) (B : Option Addr) (d : Nat), e = .returned (.tuple #[m.v, .slice B (unR l).length d, .int .i64 (unE l : Nat)]) ∧ m.plain = unM l ∧ IsMsgT w' m ∧ BytesIn w' lo hi (.slice B (unR l).length d) (unR l) ∧ Below w.heap.size w w' := by
  have ha0 := ha.alloc (.cells #[.int .i64 0, .int .i64 0, .int .i64 0, .int .u64 0, .int .u64 0, .int .u64 0, .int .u64 0, .bool false, .slice none 0 0, .slice none 0 0] 41)
  obtain ⟨A, c, rfl, hs⟩ := ha
  have R0 := Blk.new w 41 #[.int .i64 0, .int .i64 0, .int .i64 0, .int .u64 0, .int .u64 0, .int .u64 0, .int .u64 0, .bool false, .slice none 0 0, .slice none 0 0]
  have hT1 : Tab (w.alloc (.cells #[.int .i64 0, .int .i64 0, .int .i64 0, .int .u64 0, .int .u64 0, .int .u64 0, .int .u64 0, .bool false, .slice none 0 0, .slice none 0 0] 41)) := hT.below ((Below.refl w.heap.size w).alloc (Nat.le_refl _) _) hT0
  have hq := take_tot (w.alloc (.cells #[.int .i64 0, .int .i64 0, .int .i64 0, .int .u64 0, .int .u64 0, .int .u64 0, .int .u64 0, .bool false, .slice none 0 0, .slice none 0 0] 41)) ha0 hT1 (Nat.lt_of_lt_of_le hT0 (by simp))
  have hTP := tP_len l
  have hEl := takeE_lt l
  generalize l.length = n at ha0 hs hq hl hTP ⊢
  obtain ⟨TE, hTE⟩ : ∃ E, takeE l = E := ⟨_, rfl⟩
  rw [hTE] at hq hEl
  have HTE := Lib.hid hTE
  have HQ := Lib.hid hq
  clear hs hTE hq ha0 hT hT1
  go_enter Tryd.func29, Tryd.ntmps29
  go_wp2_with fail
  refine HQ.out.mono ?_
  rintro e w1 ⟨A1, c1, B1, d1, rfl, hp, hr, hb1⟩
  have R1 := R0.after hb1
  have D1 := below_boxed hb1
  have z1 : w.heap.size < w1.heap.size := R1.lt
  clear R0 hb1 HQ
  by_cases h0 : TE = 0
  · subst h0
    have hE := unE_go HTE.out
    have hM := unM_go HTE.out
    have hd := decode_strong w1 (hp 0).1 (by omega)
    obtain ⟨cd, hcd⟩ : ∃ cd, decC (tP l) = cd := ⟨_, rfl⟩
    rw [hcd] at hd hE
    have HD := Lib.hid hd
    have HE := Lib.hid hE
    have HM := Lib.hid hM
    have HR := Lib.hid hr
    clear hd hE hM hp hr hcd
    obtain ⟨tr, htr⟩ : ∃ k, (tR l).length = k := ⟨_, rfl⟩
    obtain ⟨tp, htp⟩ : ∃ k, (tP l).length = k := ⟨_, rfl⟩
    rw [htr] at HR
    rw [htp] at HD
    rw [htp] at hTP
    rw [htr, htp]
    have HTR := Lib.hid htr
    clear htr htp
    go_wp2_with fail
    refine HD.out.mono ?_
    rintro e w2 ⟨m, rfl, hpl, hmk, hb2⟩
    have R2 := R1.after hb2
    have D2 := D1.trans (hb2.mono D1.size)
    have HR2 := Lib.hid (HR.out.after hb2)
    have z2 : w.heap.size < w2.heap.size := R2.lt
    clear R1 D1 hb2 HD HR
    obtain ⟨k, f, t, te, ix, pr, co, ok, dA, dc, d, eA, ec, es⟩ := m
    simp only [Msg.v, mcells]
    obtain ⟨M, hMd⟩ : ∃ M : Msg, M = ⟨k, f, t, te, ix, pr, co, ok, dA, dc, d, eA, ec, es⟩ := ⟨_, rfl⟩
    have vM : M.v = .agg #[.int .i64 k, .int .i64 f, .int .i64 t, .int .u64 (te : Int), .int .u64 (ix : Int), .int .u64 (pr : Int), .int .u64 (co : Int), .bool ok, .slice dA d.length dc, .slice eA es.length ec] := by rw [hMd]; rfl
    rw [← hMd] at hpl hmk
    generalize hdn : d.length = dn at vM ⊢
    generalize hen : es.length = en at vM ⊢
    clear hdn hen hMd
    have V := Lib.hid vM
    have HK := Lib.hid hmk
    have HP := Lib.hid hpl
    clear vM hmk hpl
    have r0 := R2.cell 0
    have e0 := R2.frozen 0
    have r1 := R2.cell 1
    have e1 := R2.frozen 1
    have r2 := R2.cell 2
    have e2 := R2.frozen 2
    have r3 := R2.cell 3
    have e3 := R2.frozen 3
    have r4 := R2.cell 4
    have e4 := R2.frozen 4
    have r5 := R2.cell 5
    have e5 := R2.frozen 5
    have r6 := R2.cell 6
    have e6 := R2.frozen 6
    have r7 := R2.cell 7
    have e7 := R2.frozen 7
    have r8 := R2.cell 8
    have e8 := R2.frozen 8
    have r9 := R2.cell 9
    have e9 := R2.frozen 9
    simp only [List.getElem?_toArray, List.getElem?_cons_zero, List.getElem?_cons_succ] at r0 r1 r2 r3 r4 r5 r6 r7 r8 r9
    obtain ⟨hg, hbk, -, -⟩ := msg_set R2 (.int .i64 k) (.int .i64 f) (.int .i64 t) (.int .u64 (te : Int)) (.int .u64 (ix : Int)) (.int .u64 (pr : Int)) (.int .u64 (co : Int)) (.bool ok) (.slice dA dn dc) (.slice eA en ec)
    by_cases h1 : cd = 0
    · have n1 : ((cd : Int) != 0) = false := by simp [h1]
      have hRR : unR l = tR l := by unfold unR; rw [if_pos (by rw [HE.out]; exact h1)]
      have HRR := Lib.hid hRR
      clear hRR
      obtain ⟨hg2, hbk2, -, -⟩ := msg_set hbk (.int .i64 k) (.int .i64 f) (.int .i64 t) (.int .u64 (te : Int)) (.int .u64 (ix : Int)) (.int .u64 (pr : Int)) (.int .u64 (co : Int)) (.bool ok) (.slice dA dn dc) (.slice eA en ec)
      have hgg := only_trans hg hg2
      clear hg hbk hg2
      go_wp2
      obtain ⟨c0, c1, c2, c3, c4, c5, c6, c7, c8, c9⟩ := Blk.c10 hbk2
      refine bodyPost_ret (v := .tuple #[M.v, .slice B1 tr d1, .int .i64 (cd : Nat)]) (by rw [V.out]; simp [results, Tryd.results29, go_sem, c0, c1, c2, c3, c4, c5, c6, c7, c8, c9, h1]) rfl ⟨M, B1, d1, ?_, by rw [HM.out]; exact HP.out, HK.out.keep (KeepT.blk R2 (by decide) (by decide) hgg), ?_, D2.grown hgg D2.size (fun k e => by cases e; exact Nat.le_refl _)⟩
      · rw [HRR.out, HTR.out, HE.out]
      · rw [HRR.out, HTR.out]
        exact HR2.out.grown hgg (fun g e => by cases e; exact .inr hh)
    · have n1 : ((cd : Int) != 0) = true := bne_iff_ne.2 (by omega)
      have hRR := unR_bad (l := l) (by rw [HE.out]; exact h1)
      have HRR := Lib.hid hRR
      clear hRR
      obtain ⟨hg2, hbk2, -, -⟩ := msg_set hbk (.int .i64 0) (.int .i64 0) (.int .i64 0) (.int .u64 0) (.int .u64 0) (.int .u64 0) (.int .u64 0) (.bool false) (.slice none 0 0) (.slice none 0 0)
      have hgg := only_trans hg hg2
      clear hg hbk hg2
      go_wp2
      obtain ⟨c0, c1, c2, c3, c4, c5, c6, c7, c8, c9⟩ := Blk.c10 hbk2
      have hz : PMsg.zero = decM (tP l) := by
        have h2 := HE.out
        rw [unE_go HTE.out] at h2
        unfold decM
        rw [if_neg (by omega)]
      refine bodyPost_ret (v := .tuple #[Msg.zero.v, .slice none 0 0, .int .i64 (cd : Nat)]) (by simp [results, Tryd.results29, go_sem, c0, c1, c2, c3, c4, c5, c6, c7, c8, c9, Msg.v, mcells, Msg.zero]) rfl ⟨Msg.zero, none, 0, ?_, ?_, isMsgT_zero _, ?_, D2.grown hgg D2.size (fun k e => by cases e; exact Nat.le_refl _)⟩
      · rw [HRR.out, HE.out]; rfl
      · rw [HM.out, ← hz]; rfl
      · rw [HRR.out]; exact bytes_none _ _ _
  · have n1 : ((TE : Int) != 0) = true := bne_iff_ne.2 (by omega)
    have hEN : takeE l ≠ 0 := by rw [HTE.out]; exact h0
    have hE := unE_bad hEN
    rw [HTE.out] at hE
    have hR := unR_bad (l := l) (by omega)
    have hM := unM_bad hEN
    have HE := Lib.hid hE
    have HR := Lib.hid hR
    have HM := Lib.hid hM
    clear hE hR hM hEN hp hr HTE
    generalize (tR l).length = tr
    generalize (tP l).length = tp at hTP ⊢
    have r0 := R1.cell 0
    have e0 := R1.frozen 0
    have r1 := R1.cell 1
    have e1 := R1.frozen 1
    have r2 := R1.cell 2
    have e2 := R1.frozen 2
    have r3 := R1.cell 3
    have e3 := R1.frozen 3
    have r4 := R1.cell 4
    have e4 := R1.frozen 4
    have r5 := R1.cell 5
    have e5 := R1.frozen 5
    have r6 := R1.cell 6
    have e6 := R1.frozen 6
    have r7 := R1.cell 7
    have e7 := R1.frozen 7
    have r8 := R1.cell 8
    have e8 := R1.frozen 8
    have r9 := R1.cell 9
    have e9 := R1.frozen 9
    simp only [List.getElem?_toArray, List.getElem?_cons_zero, List.getElem?_cons_succ] at r0 r1 r2 r3 r4 r5 r6 r7 r8 r9
    go_wp2
    obtain ⟨hg, hbk, -, -⟩ := msg_set R1 (.int .i64 0) (.int .i64 0) (.int .i64 0) (.int .u64 0) (.int .u64 0) (.int .u64 0) (.int .u64 0) (.bool false) (.slice none 0 0) (.slice none 0 0)
    obtain ⟨c0, c1, c2, c3, c4, c5, c6, c7, c8, c9⟩ := Blk.c10 hbk
    exact bodyPost_ret (v := .tuple #[Msg.zero.v, .slice none 0 0, .int .i64 (TE : Nat)]) (by simp [results, Tryd.results29, go_sem, c0, c1, c2, c3, c4, c5, c6, c7, c8, c9, Msg.v, mcells, Msg.zero]) rfl ⟨Msg.zero, none, 0, by rw [HR.out, HE.out]; rfl, by rw [HM.out]; rfl, isMsgT_zero _, by rw [HR.out]; exact bytes_none _ _ _, D1.grown hg D1.size (fun k e => by cases e; exact Nat.le_refl _)⟩
set_option maxRecDepth 100000 in
set_option maxHeartbeats 1000000 in
theorem qunpack_any {v : Value} {l : List UInt8} (w : World) {lo hi : Nat} (ha : BytesIn w lo hi v l) (hh : hi ≤ w.heap.size) (hl : l.length ≤ 100000) :
    Calls Tryd.prog 30 #[v] w fun e w' => ∃ (m : Msg) (B : Option Addr) (d : Nat), e = .returned (.tuple #[m.v, .slice B (unR l).length d, .int .i64 (unE l : Nat)]) ∧ m.plain = unM l ∧ IsMsg w' m ∧ BytesIn w' lo hi (.slice B (unR l).length d) (unR l) ∧ Below w.heap.size w w' := by
  have ha0 := ha.alloc (.cells #[.int .i64 0, .int .i64 0, .int .i64 0, .int .u64 0, .int .u64 0, .int .u64 0, .int .u64 0, .bool false, .slice none 0 0, .slice none 0 0] 41)
  obtain ⟨A, c, rfl, hs⟩ := ha
  have R0 := Blk.new w 41 #[.int .i64 0, .int .i64 0, .int .i64 0, .int .u64 0, .int .u64 0, .int .u64 0, .int .u64 0, .bool false, .slice none 0 0, .slice none 0 0]
  have hq := refTake_tot (w.alloc (.cells #[.int .i64 0, .int .i64 0, .int .i64 0, .int .u64 0, .int .u64 0, .int .u64 0, .int .u64 0, .bool false, .slice none 0 0, .slice none 0 0] 41)) ha0
  have hTP := tP_len l
  have hEl := takeE_lt l
  generalize l.length = n at ha0 hs hq hl hTP ⊢
  obtain ⟨TE, hTE⟩ : ∃ E, takeE l = E := ⟨_, rfl⟩
  rw [hTE] at hq hEl
  have HTE := Lib.hid hTE
  have HQ := Lib.hid hq
  clear hs hTE hq ha0
  go_enter Tryd.func30, Tryd.ntmps30
  go_wp2_with fail
  refine HQ.out.mono ?_
  rintro e w1 ⟨A1, c1, B1, d1, rfl, hp, hr, hb1⟩
  have R1 := R0.after hb1
  have D1 := below_boxed hb1
  have z1 : w.heap.size < w1.heap.size := R1.lt
  clear R0 hb1 HQ
  by_cases h0 : TE = 0
  · subst h0
    have hE := unE_go HTE.out
    have hM := unM_go HTE.out
    have hd := qdecode_strong w1 hi (hp.wide (Nat.zero_le _) (Nat.le_refl _)) (by omega) (by omega)
    obtain ⟨cd, hcd⟩ : ∃ cd, decC (tP l) = cd := ⟨_, rfl⟩
    rw [hcd] at hd hE
    have HD := Lib.hid hd
    have HE := Lib.hid hE
    have HM := Lib.hid hM
    have HR := Lib.hid hr
    clear hd hE hM hp hr hcd
    obtain ⟨tr, htr⟩ : ∃ k, (tR l).length = k := ⟨_, rfl⟩
    obtain ⟨tp, htp⟩ : ∃ k, (tP l).length = k := ⟨_, rfl⟩
    rw [htr] at HR
    rw [htp] at HD
    rw [htp] at hTP
    rw [htr, htp]
    have HTR := Lib.hid htr
    clear htr htp
    go_wp2_with fail
    refine HD.out.mono ?_
    rintro e w2 ⟨m, rfl, hpl, hmk, hb2⟩
    have R2 := R1.after hb2
    have D2 := D1.trans (hb2.mono D1.size)
    have HR2 := Lib.hid (HR.out.after hb2)
    have z2 : w.heap.size < w2.heap.size := R2.lt
    clear R1 D1 hb2 HD HR
    obtain ⟨k, f, t, te, ix, pr, co, ok, dA, dc, d, eA, ec, es⟩ := m
    simp only [Msg.v, mcells]
    obtain ⟨M, hMd⟩ : ∃ M : Msg, M = ⟨k, f, t, te, ix, pr, co, ok, dA, dc, d, eA, ec, es⟩ := ⟨_, rfl⟩
    have vM : M.v = .agg #[.int .i64 k, .int .i64 f, .int .i64 t, .int .u64 (te : Int), .int .u64 (ix : Int), .int .u64 (pr : Int), .int .u64 (co : Int), .bool ok, .slice dA d.length dc, .slice eA es.length ec] := by rw [hMd]; rfl
    rw [← hMd] at hpl hmk
    generalize hdn : d.length = dn at vM ⊢
    generalize hen : es.length = en at vM ⊢
    clear hdn hen hMd
    have V := Lib.hid vM
    have HK := Lib.hid hmk
    have HP := Lib.hid hpl
    clear vM hmk hpl
    have r0 := R2.cell 0
    have e0 := R2.frozen 0
    have r1 := R2.cell 1
    have e1 := R2.frozen 1
    have r2 := R2.cell 2
    have e2 := R2.frozen 2
    have r3 := R2.cell 3
    have e3 := R2.frozen 3
    have r4 := R2.cell 4
    have e4 := R2.frozen 4
    have r5 := R2.cell 5
    have e5 := R2.frozen 5
    have r6 := R2.cell 6
    have e6 := R2.frozen 6
    have r7 := R2.cell 7
    have e7 := R2.frozen 7
    have r8 := R2.cell 8
    have e8 := R2.frozen 8
    have r9 := R2.cell 9
    have e9 := R2.frozen 9
    simp only [List.getElem?_toArray, List.getElem?_cons_zero, List.getElem?_cons_succ] at r0 r1 r2 r3 r4 r5 r6 r7 r8 r9
    by_cases h1 : cd = 0
    · have n1 : ((cd : Int) != 0) = false := by simp [h1]
      have hRR : unR l = tR l := by unfold unR; rw [if_pos (by rw [HE.out]; exact h1)]
      have HRR := Lib.hid hRR
      clear hRR
      obtain ⟨hg2, hbk0, -, -⟩ := msg_set R2 (.int .i64 k) (.int .i64 f) (.int .i64 t) (.int .u64 (te : Int)) (.int .u64 (ix : Int)) (.int .u64 (pr : Int)) (.int .u64 (co : Int)) (.bool ok) (.slice dA dn dc) (.slice eA en ec)
      have hbk2 := hbk0.alloc (.cells #[.int .i64 k, .int .i64 f, .int .i64 t, .int .u64 (te : Int), .int .u64 (ix : Int), .int .u64 (pr : Int), .int .u64 (co : Int), .bool ok, .slice dA dn dc, .slice eA en ec] 41)
      have hgg := only_alloc hg2 (.cells #[.int .i64 k, .int .i64 f, .int .i64 t, .int .u64 (te : Int), .int .u64 (ix : Int), .int .u64 (pr : Int), .int .u64 (co : Int), .bool ok, .slice dA dn dc, .slice eA en ec] 41)
      clear hg2 hbk0
      go_wp2
      obtain ⟨c0, c1, c2, c3, c4, c5, c6, c7, c8, c9⟩ := Blk.c10 hbk2
      refine bodyPost_ret (v := .tuple #[M.v, .slice B1 tr d1, .int .i64 (cd : Nat)]) (by rw [V.out]; simp [results, Tryd.results30, go_sem, c0, c1, c2, c3, c4, c5, c6, c7, c8, c9, h1]) rfl ⟨M, B1, d1, ?_, by rw [HM.out]; exact HP.out, HK.out.2 _ _ _ hh R2 hgg, ?_, D2.grown hgg D2.size (fun k e => by cases e; exact Nat.le_refl _)⟩
      · rw [HRR.out, HTR.out, HE.out]
      · rw [HRR.out, HTR.out]
        exact HR2.out.grown hgg (fun g e => by cases e; exact .inr hh)
    · have n1 : ((cd : Int) != 0) = true := bne_iff_ne.2 (by omega)
      have hRR := unR_bad (l := l) (by rw [HE.out]; exact h1)
      have HRR := Lib.hid hRR
      clear hRR
      obtain ⟨hg2, hbk0, -, -⟩ := msg_set R2 (.int .i64 0) (.int .i64 0) (.int .i64 0) (.int .u64 0) (.int .u64 0) (.int .u64 0) (.int .u64 0) (.bool false) (.slice none 0 0) (.slice none 0 0)
      have hbk2 := hbk0.alloc (.cells #[.int .i64 k, .int .i64 f, .int .i64 t, .int .u64 (te : Int), .int .u64 (ix : Int), .int .u64 (pr : Int), .int .u64 (co : Int), .bool ok, .slice dA dn dc, .slice eA en ec] 41)
      have hgg := only_alloc hg2 (.cells #[.int .i64 k, .int .i64 f, .int .i64 t, .int .u64 (te : Int), .int .u64 (ix : Int), .int .u64 (pr : Int), .int .u64 (co : Int), .bool ok, .slice dA dn dc, .slice eA en ec] 41)
      clear hg2 hbk0
      go_wp2
      obtain ⟨c0, c1, c2, c3, c4, c5, c6, c7, c8, c9⟩ := Blk.c10 hbk2
      have hz : PMsg.zero = decM (tP l) := by
        have h2 := HE.out
        rw [unE_go HTE.out] at h2
        unfold decM
        rw [if_neg (by omega)]
      refine bodyPost_ret (v := .tuple #[Msg.zero.v, .slice none 0 0, .int .i64 (cd : Nat)]) (by simp [results, Tryd.results30, go_sem, c0, c1, c2, c3, c4, c5, c6, c7, c8, c9, Msg.v, mcells, Msg.zero]) rfl ⟨Msg.zero, none, 0, ?_, ?_, isMsg_zero _, ?_, D2.grown hgg D2.size (fun k e => by cases e; exact Nat.le_refl _)⟩
      · rw [HRR.out, HE.out]; rfl
      · rw [HM.out, ← hz]; rfl
      · rw [HRR.out]; exact bytes_none _ _ _
  · have n1 : ((TE : Int) != 0) = true := bne_iff_ne.2 (by omega)
    have hEN : takeE l ≠ 0 := by rw [HTE.out]; exact h0
    have hE := unE_bad hEN
    rw [HTE.out] at hE
    have hR := unR_bad (l := l) (by omega)
    have hM := unM_bad hEN
    have HE := Lib.hid hE
    have HR := Lib.hid hR
    have HM := Lib.hid hM
    clear hE hR hM hEN hp hr HTE
    generalize (tR l).length = tr
    generalize (tP l).length = tp at hTP ⊢
    have r0 := R1.cell 0
    have e0 := R1.frozen 0
    have r1 := R1.cell 1
    have e1 := R1.frozen 1
    have r2 := R1.cell 2
    have e2 := R1.frozen 2
    have r3 := R1.cell 3
    have e3 := R1.frozen 3
    have r4 := R1.cell 4
    have e4 := R1.frozen 4
    have r5 := R1.cell 5
    have e5 := R1.frozen 5
    have r6 := R1.cell 6
    have e6 := R1.frozen 6
    have r7 := R1.cell 7
    have e7 := R1.frozen 7
    have r8 := R1.cell 8
    have e8 := R1.frozen 8
    have r9 := R1.cell 9
    have e9 := R1.frozen 9
    simp only [List.getElem?_toArray, List.getElem?_cons_zero, List.getElem?_cons_succ] at r0 r1 r2 r3 r4 r5 r6 r7 r8 r9
    go_wp2
    obtain ⟨hg, hbk, -, -⟩ := msg_set R1 (.int .i64 0) (.int .i64 0) (.int .i64 0) (.int .u64 0) (.int .u64 0) (.int .u64 0) (.int .u64 0) (.bool false) (.slice none 0 0) (.slice none 0 0)
    obtain ⟨c0, c1, c2, c3, c4, c5, c6, c7, c8, c9⟩ := Blk.c10 hbk
    exact bodyPost_ret (v := .tuple #[Msg.zero.v, .slice none 0 0, .int .i64 (TE : Nat)]) (by simp [results, Tryd.results30, go_sem, c0, c1, c2, c3, c4, c5, c6, c7, c8, c9, Msg.v, mcells, Msg.zero]) rfl ⟨Msg.zero, none, 0, by rw [HR.out, HE.out]; rfl, by rw [HM.out]; rfl, isMsg_zero _, by rw [HR.out]; exact bytes_none _ _ _, D1.grown hg D1.size (fun k e => by cases e; exact Nat.le_refl _)⟩
end Go.Proofs.YtciolppoanfiaaaDoor
