/- The document's Encode of any message; Pack and the document's Pack. -/
import Derived.Test.YtciolppoanfiaaaDoorXRefEnc
import Derived.Test.YtciolppoanfiaaaDoorWRefFrame
namespace Go.Proofs.YtciolppoanfiaaaDoor
open Go.RowKit
set_option maxRecDepth 100000 in
set_option maxHeartbeats 1000000 in
theorem qencode_bad (k f t : Int) (te ix pr co : Nat) (ok : Bool) (dA : Option Addr) (dc : Nat) (d : List UInt8) (eA : Option Addr) (ec : Nat) (es : List Ent) (w : World)
    (hm : IsMsg w ⟨k, f, t, te, ix, pr, co, ok, dA, dc, d, eA, ec, es⟩) {E : Nat} (h0 : checkF k f t d.length es = E) (hE : E ≠ 0) :
    Calls Tryd.prog 25 #[.agg #[.int .i64 k, .int .i64 f, .int .i64 t, .int .u64 (te : Int), .int .u64 (ix : Int), .int .u64 (pr : Int), .int .u64 (co : Int), .bool ok, .slice dA d.length dc, .slice eA es.length ec]] w fun e w' =>
      e = .returned (.tuple #[.slice none 0 0, .int .i64 (E : Int)]) ∧ Below w.heap.size w w' := by
  obtain ⟨⟨dlo, dhi, hsd⟩, ⟨elo, ehi, hse⟩, hed⟩ := hm
  simp only at hsd hse hed
  obtain ⟨dn, hdn⟩ : ∃ n, d.length = n := ⟨_, rfl⟩
  obtain ⟨n, hn⟩ : ∃ n, es.length = n := ⟨_, rfl⟩
  rw [hdn] at h0 hsd ⊢
  rw [hn] at hse ⊢
  have hcapd := hsd.cap
  have hmaxd := hsd.max
  have hcape := hse.cap
  have hmaxe := hse.max
  have hchk := qcheck_any k f t te ix pr co ok dA dn dc eA n ec elo ehi es _ (hse.alloc (by decide) (.cells #[.int .i64 k, .int .i64 f, .int .i64 t, .int .u64 (te : Int), .int .u64 (ix : Int), .int .u64 (pr : Int), .int .u64 (co : Int), .bool ok, .slice dA dn dc, .slice eA n ec] 41)) (by omega)
  rw [h0] at hchk
  have HC := Lib.hid hchk
  have hne : ((E : Int) != 0) = true := bne_iff_ne.2 (by omega)
  clear hchk h0 hdn hn hed
  go_enter Tryd.func25, Tryd.ntmps25
  go_wp2_with fail
  refine HC.out.mono ?_
  rintro e w1 ⟨rfl, hb1⟩
  have D1 := below_boxed hb1
  go_wp2
  go_ret2
  exact ⟨rfl, D1⟩
/-- the document's Encode, of any message -/
theorem qencode_any (m : Msg) (w : World) (hm : IsMsg w m) (hf : m.plain.fits) {c : Nat} {l : List UInt8} (hc : m.plain.check = c) (hl : (if c = 0 then m.plain.enc else []) = l) :
    Calls Tryd.prog 25 #[m.v] w fun e w' => ∃ A n, e = .returned (.tuple #[.slice A l.length n, .int .i64 (c : Int)]) ∧ Bytes w' (.slice A l.length n) l ∧ w'.ownsRow w.heap.size 5 1 (.slice A l.length n) l.length (l.map bv) ∧ Below w.heap.size w w' := by
  obtain ⟨k, f, t, te, ix, pr, co, ok, dA, dc, d, eA, ec, es⟩ := m
  have hck : checkF k f t d.length es = c := by rw [checkF_key]; exact hc
  by_cases h0 : c = 0
  · subst h0
    have hR := right_of hck
    have h1 := hR.k1
    have h2 := hR.f1
    have h3 := hR.t1
    obtain ⟨kn, rfl⟩ : ∃ n : Nat, k = n := ⟨k.toNat, by omega⟩
    obtain ⟨fn, rfl⟩ : ∃ n : Nat, f = n := ⟨f.toNat, by omega⟩
    obtain ⟨tn, rfl⟩ : ∃ n : Nat, t = n := ⟨t.toNat, by omega⟩
    rw [if_pos rfl] at hl
    subst hl
    have hu : te < 18446744073709551616 ∧ ix < 18446744073709551616 ∧ pr < 18446744073709551616 ∧ co < 18446744073709551616 ∧ ∀ e ∈ es, e.t < 18446744073709551616 := by
      obtain ⟨⟨a1, a2, a3, a4⟩, a5⟩ := hf
      exact ⟨a1, a2, a3, a4, fun e he => a5 _ (List.mem_map.2 ⟨e, he, rfl⟩)⟩
    have hq : Calls Tryd.prog 25 #[.agg #[.int .i64 (kn : Int), .int .i64 (fn : Int), .int .i64 (tn : Int), .int .u64 (te : Int), .int .u64 (ix : Int), .int .u64 (pr : Int), .int .u64 (co : Int), .bool ok, .slice dA d.length dc, .slice eA es.length ec]] w fun e w' =>
      ∃ v n, e = .returned (.tuple #[v, .int .i64 0]) ∧ w'.ownsRow w.heap.size 5 1 v n ((PMsg.enc ⟨(kn : Int), (fn : Int), (tn : Int), te, ix, pr, co, ok, d, es.map Ent.key⟩).map bv) ∧ Below w.heap.size w w' := by
      cases ok
      · exact qencode_okf kn fn tn te ix pr co dA dc d eA ec es w hm hck hu
      · exact qencode_okt kn fn tn te ix pr co dA dc d eA ec es w hm hck hu
    refine hq.mono ?_
    rintro e w' ⟨v, n, rfl, hown, hb⟩
    have hn : n = (PMsg.enc ⟨(kn : Int), (fn : Int), (tn : Int), te, ix, pr, co, ok, d, es.map Ent.key⟩).length := by have := hown.1; simp at this; omega
    subst hn
    obtain ⟨A, c, rfl, -⟩ := own_sl hown
    exact ⟨A, c, rfl, own_bytes hown, hown, hb⟩
  · rw [if_neg h0] at hl
    subst hl
    refine (qencode_bad k f t te ix pr co ok dA dc d eA ec es w hm hck h0).mono ?_
    rintro e w' ⟨rfl, hb⟩
    exact ⟨none, 0, rfl, ⟨0, 0, none, 0, rfl, Sl.nil_ _ _ _ _⟩, World.ownsRow_nil _ _ _ _, hb⟩
/-- what is wrong with a message that is to be packed; its frame -/
def PMsg.pkE (m : PMsg) : Nat := if m.check ≠ 0 then m.check else if 1000 < m.enc.length then 2 else 0
def PMsg.pkL (m : PMsg) : List UInt8 := if m.pkE = 0 then frameOf m.enc else []
theorem pk_bad {m : PMsg} (h : m.check ≠ 0) : m.pkE = m.check ∧ m.pkL = [] := by
  have h1 : m.pkE = m.check := by unfold PMsg.pkE; rw [if_pos h]
  exact ⟨h1, by unfold PMsg.pkL; rw [if_neg (by omega)]⟩
theorem pk_long {m : PMsg} (h : m.check = 0) (hl : 1000 < m.enc.length) : m.pkE = 2 ∧ m.pkL = [] := by
  have h1 : m.pkE = 2 := by unfold PMsg.pkE; rw [if_neg (by omega), if_pos hl]
  exact ⟨h1, by unfold PMsg.pkL; rw [if_neg (by omega)]⟩
theorem pk_ok {m : PMsg} (h : m.check = 0) (hl : m.enc.length ≤ 1000) : m.pkE = 0 ∧ m.pkL = frameOf m.enc := by
  have h1 : m.pkE = 0 := by unfold PMsg.pkE; rw [if_neg (by omega), if_neg (by omega)]
  exact ⟨h1, by unfold PMsg.pkL; rw [if_pos h1]⟩
set_option maxRecDepth 100000 in
set_option maxHeartbeats 1000000 in
theorem pack_any (m : Msg) (w : World) (hm : IsMsg w m) (hT : Tab w) (hT0 : 0 < w.heap.size) {E : Nat} {L : List UInt8} (hE : m.plain.pkE = E) (hL : m.plain.pkL = L) :
    Calls Tryd.prog 26 #[m.v] w fun e w' => ∃ A n, e = .returned (.tuple #[.slice A L.length n, .int .i64 (E : Int)]) ∧ w'.ownsRow w.heap.size 5 1 (.slice A L.length n) L.length (L.map bv) ∧ Below w.heap.size w w' := by
  obtain ⟨c, hc⟩ : ∃ c, m.plain.check = c := ⟨_, rfl⟩
  obtain ⟨l, hl⟩ : ∃ l, (if c = 0 then m.plain.enc else []) = l := ⟨_, rfl⟩
  have hbad := fun h => pk_bad (m := m.plain) h
  have hlong := fun h => pk_long (m := m.plain) h
  have hok := fun h => pk_ok (m := m.plain) h
  rw [hc, hE, hL] at hbad hlong hok
  obtain ⟨M, hM⟩ : ∃ M : Msg, M = m := ⟨_, rfl⟩
  rw [← hM] at hm hc hl
  rw [← hM] at hlong hok
  have hE1 := fun W (h : IsMsg W M) => encode_any M W h hc hl
  have HB := Lib.hid hbad
  have HG := Lib.hid hlong
  have HO := Lib.hid hok
  have HL := Lib.hid hl
  obtain ⟨k, f, t, te, ix, pr, co, ok, dA, dc, d, eA, ec, es⟩ := m
  simp only [Msg.v, mcells]
  have vM : M.v = .agg #[.int .i64 k, .int .i64 f, .int .i64 t, .int .u64 (te : Int), .int .u64 (ix : Int), .int .u64 (pr : Int), .int .u64 (co : Int), .bool ok, .slice dA d.length dc, .slice eA es.length ec] := by rw [hM]; rfl
  rw [vM] at hE1
  generalize d.length = dn at hE1 ⊢
  generalize es.length = en at hE1 ⊢
  have H1 := Lib.hid hE1
  obtain ⟨ln, hln⟩ : ∃ n, l.length = n := ⟨_, rfl⟩
  rw [hln] at H1
  have HLN := Lib.hid hln
  clear hbad hlong hok hE hL hc hl hM vM hE1 hln
  have HT : Hid (∀ W, Below w.heap.size w W → Tab W) := fun W hb => hT.below hb hT0
  clear hT
  go_enter Tryd.func26, Tryd.ntmps26
  go_wp2_with fail
  refine (H1.out _ (hm.alloc _)).mono ?_
  rintro e w1 ⟨A1, c1, rfl, u1, o1, b1⟩
  have D1 := below_boxed b1
  clear H1 b1
  by_cases h0 : c = 0
  · subst h0
    have n1 : (((0 : Nat) : Int) != 0) = false := by simp
    have hll := HL.out
    rw [if_pos rfl] at hll
    by_cases h1 : 1000 < ln
    · obtain ⟨e1, e2⟩ := HG.out rfl (by rw [hll, HLN.out]; exact h1)
      have HE1 := Lib.hid e1
      have HE2 := Lib.hid e2
      have hbig : Hid (1000 < l.length) := by show _ < _; rw [HLN.out]; exact h1
      clear e1 e2 hll
      go_wp2_with fail
      refine (frame_long _ u1 hbig.out).mono ?_
      rintro e w2 ⟨rfl, rfl⟩
      go_wp2
      go_ret2
      refine ⟨none, 0, ?_, ?_, D1⟩
      · rw [HE1.out, HE2.out]; rfl
      · rw [HE2.out]; exact World.ownsRow_nil _ _ _ _
    · obtain ⟨e1, e2⟩ := HO.out rfl (by rw [hll, HLN.out]; omega)
      rw [hll] at e2
      have HE1 := Lib.hid e1
      have HE2 := Lib.hid e2
      have hsm : Hid (l.length ≤ 1000) := by show _ ≤ _; rw [HLN.out]; omega
      clear e1 e2 hll
      go_wp2_with fail
      refine (frame_ok _ u1 (HT.out _ D1) (Nat.lt_of_lt_of_le hT0 D1.size) hsm.out).mono ?_
      rintro e w2 ⟨u2, rfl, o2, b2⟩
      have hlen := frameOf_len l
      obtain ⟨A2, c2, rfl, -⟩ := own_sl o2
      go_wp2
      go_ret2
      refine ⟨A2, c2, ?_, ?_, D1.trans (b2.mono D1.size)⟩
      · rw [HE1.out, HE2.out, hlen]; rfl
      · rw [HE2.out, hlen]; exact own_wide o2 D1.size
  · have n1 : ((c : Int) != 0) = true := bne_iff_ne.2 (by omega)
    obtain ⟨e1, e2⟩ := HB.out h0
    have HE1 := Lib.hid e1
    have HE2 := Lib.hid e2
    clear e1 e2
    go_wp2
    go_ret2
    refine ⟨none, 0, ?_, ?_, D1⟩
    · rw [HE1.out, HE2.out]; rfl
    · rw [HE2.out]; exact World.ownsRow_nil _ _ _ _
set_option maxRecDepth 100000 in
set_option maxHeartbeats 1000000 in
theorem qpack_any (m : Msg) (w : World) (hm : IsMsg w m) (hf : m.plain.fits) {E : Nat} {L : List UInt8} (hE : m.plain.pkE = E) (hL : m.plain.pkL = L) :
    Calls Tryd.prog 27 #[m.v] w fun e w' => ∃ A n, e = .returned (.tuple #[.slice A L.length n, .int .i64 (E : Int)]) ∧ w'.ownsRow w.heap.size 5 1 (.slice A L.length n) L.length (L.map bv) ∧ Below w.heap.size w w' := by
  obtain ⟨c, hc⟩ : ∃ c, m.plain.check = c := ⟨_, rfl⟩
  obtain ⟨l, hl⟩ : ∃ l, (if c = 0 then m.plain.enc else []) = l := ⟨_, rfl⟩
  have hbad := fun h => pk_bad (m := m.plain) h
  have hlong := fun h => pk_long (m := m.plain) h
  have hok := fun h => pk_ok (m := m.plain) h
  rw [hc, hE, hL] at hbad hlong hok
  obtain ⟨M, hM⟩ : ∃ M : Msg, M = m := ⟨_, rfl⟩
  rw [← hM] at hm hc hl hf
  rw [← hM] at hlong hok
  have hE1 := fun W (h : IsMsg W M) => qencode_any M W h hf hc hl
  have HB := Lib.hid hbad
  have HG := Lib.hid hlong
  have HO := Lib.hid hok
  have HL := Lib.hid hl
  obtain ⟨k, f, t, te, ix, pr, co, ok, dA, dc, d, eA, ec, es⟩ := m
  simp only [Msg.v, mcells]
  have vM : M.v = .agg #[.int .i64 k, .int .i64 f, .int .i64 t, .int .u64 (te : Int), .int .u64 (ix : Int), .int .u64 (pr : Int), .int .u64 (co : Int), .bool ok, .slice dA d.length dc, .slice eA es.length ec] := by rw [hM]; rfl
  rw [vM] at hE1
  generalize d.length = dn at hE1 ⊢
  generalize es.length = en at hE1 ⊢
  have H1 := Lib.hid hE1
  obtain ⟨ln, hln⟩ : ∃ n, l.length = n := ⟨_, rfl⟩
  rw [hln] at H1
  have HLN := Lib.hid hln
  clear hbad hlong hok hE hL hc hl hM vM hE1 hln
  go_enter Tryd.func27, Tryd.ntmps27
  go_wp2_with fail
  refine (H1.out _ (hm.alloc _)).mono ?_
  rintro e w1 ⟨A1, c1, rfl, u1, o1, b1⟩
  have D1 := below_boxed b1
  clear H1 b1
  by_cases h0 : c = 0
  · subst h0
    have n1 : (((0 : Nat) : Int) != 0) = false := by simp
    have hll := HL.out
    rw [if_pos rfl] at hll
    by_cases h1 : 1000 < ln
    · obtain ⟨e1, e2⟩ := HG.out rfl (by rw [hll, HLN.out]; exact h1)
      have HE1 := Lib.hid e1
      have HE2 := Lib.hid e2
      have hbig : Hid (1000 < l.length) := by show _ < _; rw [HLN.out]; exact h1
      clear e1 e2 hll
      go_wp2_with fail
      refine (refFrame_long _ u1 hbig.out).mono ?_
      rintro e w2 ⟨rfl, rfl⟩
      go_wp2
      go_ret2
      refine ⟨none, 0, ?_, ?_, D1⟩
      · rw [HE1.out, HE2.out]; rfl
      · rw [HE2.out]; exact World.ownsRow_nil _ _ _ _
    · obtain ⟨e1, e2⟩ := HO.out rfl (by rw [hll, HLN.out]; omega)
      rw [hll] at e2
      have HE1 := Lib.hid e1
      have HE2 := Lib.hid e2
      have hsm : Hid (l.length ≤ 1000) := by show _ ≤ _; rw [HLN.out]; omega
      clear e1 e2 hll
      go_wp2_with fail
      refine (refFrame_ok _ u1 hsm.out).mono ?_
      rintro e w2 ⟨u2, rfl, o2, b2⟩
      have hlen := frameOf_len l
      obtain ⟨A2, c2, rfl, -⟩ := own_sl o2
      go_wp2
      go_ret2
      refine ⟨A2, c2, ?_, ?_, D1.trans (b2.mono D1.size)⟩
      · rw [HE1.out, HE2.out, hlen]; rfl
      · rw [HE2.out, hlen]; exact own_wide o2 D1.size
  · have n1 : ((c : Int) != 0) = true := bne_iff_ne.2 (by omega)
    obtain ⟨e1, e2⟩ := HB.out h0
    have HE1 := Lib.hid e1
    have HE2 := Lib.hid e2
    clear e1 e2
    go_wp2
    go_ret2
    refine ⟨none, 0, ?_, ?_, D1⟩
    · rw [HE1.out, HE2.out]; rfl
    · rw [HE2.out]; exact World.ownsRow_nil _ _ _ _
end Go.Proofs.YtciolppoanfiaaaDoor
