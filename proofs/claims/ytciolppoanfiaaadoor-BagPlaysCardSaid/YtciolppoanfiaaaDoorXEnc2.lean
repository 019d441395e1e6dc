import Derived.Test.YtciolppoanfiaaaDoorXEncode
import Derived.Test.YtciolppoanfiaaaDoorXDecode
import Derived.Test.YtciolppoanfiaaaDoorZPlain
namespace Go.Proofs.YtciolppoanfiaaaDoor
open Go.RowKit

set_option maxRecDepth 100000 in
set_option maxHeartbeats 1000000 in
theorem encode_bad (k f t : Int) (te ix pr co : Nat) (ok : Bool) (dA : Option Addr) (dc : Nat) (d : List UInt8) (eA : Option Addr) (ec : Nat) (es : List Ent) (w : World)
    (hm : IsMsg w ⟨k, f, t, te, ix, pr, co, ok, dA, dc, d, eA, ec, es⟩) {E : Nat} (h0 : checkF k f t d.length es = E) (hE : E ≠ 0) (hE2 : E < 100) :
    Calls Tryd.prog 24 #[.agg #[.int .i64 k, .int .i64 f, .int .i64 t, .int .u64 (te : Int), .int .u64 (ix : Int), .int .u64 (pr : Int), .int .u64 (co : Int), .bool ok, .slice dA d.length dc, .slice eA es.length ec]] w fun e w' =>
      e = .returned (.tuple #[.slice none 0 0, .int .i64 (E : Int)]) ∧ Below w.heap.size w w' := by
  obtain ⟨⟨dlo, dhi, hsd⟩, ⟨elo, ehi, hse⟩, hed⟩ := hm
  simp only at hsd hse hed
  obtain ⟨dn, hdn⟩ : ∃ n, d.length = n := ⟨_, rfl⟩
  obtain ⟨n, hn⟩ : ∃ n, es.length = n := ⟨_, rfl⟩
  rw [hdn] at h0 hsd ⊢
  rw [hn] at hse ⊢
  have hcapd := hsd.cap
  have hmaxd := hsd.max
  have hcape := hse.cap
  have hmaxe := hse.max
  have hchk := check_any k f t te ix pr co ok dA dn dc eA n ec elo ehi es _ (hse.alloc (by decide) (.cells #[.int .i64 k, .int .i64 f, .int .i64 t, .int .u64 (te : Int), .int .u64 (ix : Int), .int .u64 (pr : Int), .int .u64 (co : Int), .bool ok, .slice dA dn dc, .slice eA n ec] 41)) (by omega)
  rw [h0] at hchk
  have HC := Lib.hid hchk
  clear hchk h0 hdn hn hed
  go_enter Tryd.func24, Tryd.ntmps24
  go_wp2_with fail
  refine HC.out.mono ?_
  rintro e w1 ⟨rfl, hb1⟩
  have D1 := below_boxed hb1
  go_wp2
  go_ret2
  exact ⟨rfl, D1⟩
theorem checkK_lt (k f t : Int) (dn : Nat) (es : List Key) : checkK k f t dn es < 100 := by unfold checkK; repeat' split <;> try omega
/-- Encode, of any message -/
theorem encode_any (m : Msg) (w : World) (hm : IsMsg w m) {c : Nat} {l : List UInt8} (hc : m.plain.check = c) (hl : (if c = 0 then m.plain.enc else []) = l) :
    Calls Tryd.prog 24 #[m.v] w fun e w' => ∃ A n, e = .returned (.tuple #[.slice A l.length n, .int .i64 (c : Int)]) ∧ Bytes w' (.slice A l.length n) l ∧ w'.ownsRow w.heap.size 5 1 (.slice A l.length n) l.length (l.map bv) ∧ Below w.heap.size w w' := by
  obtain ⟨k, f, t, te, ix, pr, co, ok, dA, dc, d, eA, ec, es⟩ := m
  have hck : checkF k f t d.length es = c := by rw [checkF_key]; exact hc
  by_cases h0 : c = 0
  · subst h0
    have hR := right_of hck
    have h1 := hR.k1
    have h2 := hR.f1
    have h3 := hR.t1
    obtain ⟨kn, rfl⟩ : ∃ n : Nat, k = n := ⟨k.toNat, by omega⟩
    obtain ⟨fn, rfl⟩ : ∃ n : Nat, f = n := ⟨f.toNat, by omega⟩
    obtain ⟨tn, rfl⟩ : ∃ n : Nat, t = n := ⟨t.toNat, by omega⟩
    rw [if_pos rfl] at hl
    subst hl
    refine (encode_ok kn fn tn te ix pr co ok dA dc d eA ec es w hm hck).mono ?_
    rintro e w' ⟨v, n, rfl, hown, hb⟩
    have hn : n = (PMsg.enc ⟨(kn : Int), (fn : Int), (tn : Int), te, ix, pr, co, ok, d, es.map Ent.key⟩).length := by have := hown.1; simp at this; omega
    subst hn
    obtain ⟨A, c, rfl, -⟩ := own_sl hown
    exact ⟨A, c, rfl, own_bytes hown, hown, hb⟩
  · rw [if_neg h0] at hl
    subst hl
    refine (encode_bad k f t te ix pr co ok dA dc d eA ec es w hm hck h0 (by rw [← hc]; exact checkK_lt ..)).mono ?_
    rintro e w' ⟨rfl, hb⟩
    exact ⟨none, 0, rfl, ⟨0, 0, none, 0, rfl, Sl.nil_ _ _ _ _⟩, World.ownsRow_nil _ _ _ _, hb⟩
end Go.Proofs.YtciolppoanfiaaaDoor
