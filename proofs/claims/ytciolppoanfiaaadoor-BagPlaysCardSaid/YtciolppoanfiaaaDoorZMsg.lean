import Derived.Test.YtciolppoanfiaaaDoorZEnts
import Derived.Test.YtciolppoanfiaaaDoorXDecode
namespace Go.Proofs.YtciolppoanfiaaaDoor
open Go.RowKit
set_option maxRecDepth 100000 in
set_option maxHeartbeats 4000000 in
theorem msgsame_any (a₁ a₂ : Msg) (w : World) (h₁ : IsMsg w a₁) (h₂ : IsMsg w a₂) {b : Bool} (hb : a₁.plain = a₂.plain ↔ b = true) :
    Calls Tryd.prog 31 #[a₁.v, a₂.v] w fun e w' => e = .returned (.bool b) ∧ Below w.heap.size w w' := by
  obtain ⟨k, f, t, te, ix, pr, co, ok, dA, dc, d, eA, ec, es⟩ := a₁
  obtain ⟨k₂, f₂, t₂, te₂, ix₂, pr₂, co₂, ok₂, dA₂, dc₂, d₂, eA₂, ec₂, es₂⟩ := a₂
  obtain ⟨⟨dlo, dhi, hsd⟩, ⟨elo, ehi, hse⟩, hed⟩ := h₁
  obtain ⟨⟨dlo₂, dhi₂, hsd₂⟩, ⟨elo₂, ehi₂, hse₂⟩, hed₂⟩ := h₂
  simp only [Msg.plain, PMsg.mk.injEq] at hb
  simp only at hsd hse hed hsd₂ hse₂ hed₂
  simp only [Msg.v, mcells]
  generalize hdn : d.length = dn at hsd ⊢
  generalize hn : es.length = n at hse ⊢
  generalize hdm : d₂.length = dm at hsd₂ ⊢
  generalize hm : es₂.length = m at hse₂ ⊢
  clear hdn hn hdm hm
  have B0 := (Blk.new w 41 #[.int .i64 k, .int .i64 f, .int .i64 t, .int .u64 (te : Int), .int .u64 (ix : Int), .int .u64 (pr : Int), .int .u64 (co : Int), .bool ok, .slice dA dn dc, .slice eA n ec]).alloc (.cells #[.int .i64 k₂, .int .i64 f₂, .int .i64 t₂, .int .u64 (te₂ : Int), .int .u64 (ix₂ : Int), .int .u64 (pr₂ : Int), .int .u64 (co₂ : Int), .bool ok₂, .slice dA₂ dm dc₂, .slice eA₂ m ec₂] 41)
  have B1 := Blk.new (w.alloc (.cells #[.int .i64 k, .int .i64 f, .int .i64 t, .int .u64 (te : Int), .int .u64 (ix : Int), .int .u64 (pr : Int), .int .u64 (co : Int), .bool ok, .slice dA dn dc, .slice eA n ec] 41)) 41 #[.int .i64 k₂, .int .i64 f₂, .int .i64 t₂, .int .u64 (te₂ : Int), .int .u64 (ix₂ : Int), .int .u64 (pr₂ : Int), .int .u64 (co₂ : Int), .bool ok₂, .slice dA₂ dm dc₂, .slice eA₂ m ec₂]
  rw [show (w.alloc (.cells #[.int .i64 k, .int .i64 f, .int .i64 t, .int .u64 (te : Int), .int .u64 (ix : Int), .int .u64 (pr : Int), .int .u64 (co : Int), .bool ok, .slice dA dn dc, .slice eA n ec] 41)).heap.size = w.heap.size + 1 by simp] at B1
  have D0 := ((Below.refl w.heap.size w).alloc (Nat.le_refl _) (.cells #[.int .i64 k, .int .i64 f, .int .i64 t, .int .u64 (te : Int), .int .u64 (ix : Int), .int .u64 (pr : Int), .int .u64 (co : Int), .bool ok, .slice dA dn dc, .slice eA n ec] 41)).alloc (by simp) (.cells #[.int .i64 k₂, .int .i64 f₂, .int .i64 t₂, .int .u64 (te₂ : Int), .int .u64 (ix₂ : Int), .int .u64 (pr₂ : Int), .int .u64 (co₂ : Int), .bool ok₂, .slice dA₂ dm dc₂, .slice eA₂ m ec₂] 41)
  have sd := ((hsd.bytes.alloc (.cells #[.int .i64 k, .int .i64 f, .int .i64 t, .int .u64 (te : Int), .int .u64 (ix : Int), .int .u64 (pr : Int), .int .u64 (co : Int), .bool ok, .slice dA dn dc, .slice eA n ec] 41)).alloc (.cells #[.int .i64 k₂, .int .i64 f₂, .int .i64 t₂, .int .u64 (te₂ : Int), .int .u64 (ix₂ : Int), .int .u64 (pr₂ : Int), .int .u64 (co₂ : Int), .bool ok₂, .slice dA₂ dm dc₂, .slice eA₂ m ec₂] 41))
  have sd₂ := ((hsd₂.bytes.alloc (.cells #[.int .i64 k, .int .i64 f, .int .i64 t, .int .u64 (te : Int), .int .u64 (ix : Int), .int .u64 (pr : Int), .int .u64 (co : Int), .bool ok, .slice dA dn dc, .slice eA n ec] 41)).alloc (.cells #[.int .i64 k₂, .int .i64 f₂, .int .i64 t₂, .int .u64 (te₂ : Int), .int .u64 (ix₂ : Int), .int .u64 (pr₂ : Int), .int .u64 (co₂ : Int), .bool ok₂, .slice dA₂ dm dc₂, .slice eA₂ m ec₂] 41))
  have se := ((hse.alloc (by decide) (.cells #[.int .i64 k, .int .i64 f, .int .i64 t, .int .u64 (te : Int), .int .u64 (ix : Int), .int .u64 (pr : Int), .int .u64 (co : Int), .bool ok, .slice dA dn dc, .slice eA n ec] 41)).alloc (by decide) (.cells #[.int .i64 k₂, .int .i64 f₂, .int .i64 t₂, .int .u64 (te₂ : Int), .int .u64 (ix₂ : Int), .int .u64 (pr₂ : Int), .int .u64 (co₂ : Int), .bool ok₂, .slice dA₂ dm dc₂, .slice eA₂ m ec₂] 41))
  have se₂ := ((hse₂.alloc (by decide) (.cells #[.int .i64 k, .int .i64 f, .int .i64 t, .int .u64 (te : Int), .int .u64 (ix : Int), .int .u64 (pr : Int), .int .u64 (co : Int), .bool ok, .slice dA dn dc, .slice eA n ec] 41)).alloc (by decide) (.cells #[.int .i64 k₂, .int .i64 f₂, .int .i64 t₂, .int .u64 (te₂ : Int), .int .u64 (ix₂ : Int), .int .u64 (pr₂ : Int), .int .u64 (co₂ : Int), .bool ok₂, .slice dA₂ dm dc₂, .slice eA₂ m ec₂] 41))
  have ed := ((hed.alloc (.cells #[.int .i64 k, .int .i64 f, .int .i64 t, .int .u64 (te : Int), .int .u64 (ix : Int), .int .u64 (pr : Int), .int .u64 (co : Int), .bool ok, .slice dA dn dc, .slice eA n ec] 41)).alloc (.cells #[.int .i64 k₂, .int .i64 f₂, .int .i64 t₂, .int .u64 (te₂ : Int), .int .u64 (ix₂ : Int), .int .u64 (pr₂ : Int), .int .u64 (co₂ : Int), .bool ok₂, .slice dA₂ dm dc₂, .slice eA₂ m ec₂] 41))
  have ed₂ := ((hed₂.alloc (.cells #[.int .i64 k, .int .i64 f, .int .i64 t, .int .u64 (te : Int), .int .u64 (ix : Int), .int .u64 (pr : Int), .int .u64 (co : Int), .bool ok, .slice dA dn dc, .slice eA n ec] 41)).alloc (.cells #[.int .i64 k₂, .int .i64 f₂, .int .i64 t₂, .int .u64 (te₂ : Int), .int .u64 (ix₂ : Int), .int .u64 (pr₂ : Int), .int .u64 (co₂ : Int), .bool ok₂, .slice dA₂ dm dc₂, .slice eA₂ m ec₂] 41))
  clear hsd hsd₂ hse hse₂ hed hed₂
  obtain ⟨wb, hwb⟩ : ∃ wb, (w.alloc (.cells #[.int .i64 k, .int .i64 f, .int .i64 t, .int .u64 (te : Int), .int .u64 (ix : Int), .int .u64 (pr : Int), .int .u64 (co : Int), .bool ok, .slice dA dn dc, .slice eA n ec] 41)).alloc (.cells #[.int .i64 k₂, .int .i64 f₂, .int .i64 t₂, .int .u64 (te₂ : Int), .int .u64 (ix₂ : Int), .int .u64 (pr₂ : Int), .int .u64 (co₂ : Int), .bool ok₂, .slice dA₂ dm dc₂, .slice eA₂ m ec₂] 41) = wb := ⟨_, rfl⟩
  rw [hwb] at B0 B1 D0 sd sd₂ se se₂ ed ed₂
  have HWB := Lib.hid hwb
  have SD := Lib.hid sd
  have SD2 := Lib.hid sd₂
  have SE := Lib.hid se
  have SE2 := Lib.hid se₂
  have ED := Lib.hid ed
  have ED2 := Lib.hid ed₂
  clear hwb sd sd₂ se se₂ ed ed₂
  by_cases e_k : k = k₂
  rotate_left
  · have e := e_k
    have n_k : (k != k₂) = true := bne_iff_ne.2 e
    obtain rfl : b = false := by cases b; rfl; exact absurd (hb.2 rfl).1 e
    clear hb e e_k
    go_enter Tryd.func31, Tryd.ntmps31
    go_upto_region 1 with fail
    rw [HWB.out]
    generalize Value.agg #[.int .i64 k, .int .i64 f, .int .i64 t, .int .u64 (te : Int), .int .u64 (ix : Int), .int .u64 (pr : Int), .int .u64 (co : Int), .bool ok, .slice dA dn dc, .slice eA n ec] = V
    generalize Value.agg #[.int .i64 k₂, .int .i64 f₂, .int .i64 t₂, .int .u64 (te₂ : Int), .int .u64 (ix₂ : Int), .int .u64 (pr₂ : Int), .int .u64 (co₂ : Int), .bool ok₂, .slice dA₂ dm dc₂, .slice eA₂ m ec₂] = V2
    obtain ⟨x0, x1, x2, x3, x4, x5, x6, x7, x8, x9⟩ := B0.c10
    obtain ⟨y0, y1, y2, y3, y4, y5, y6, y7, y8, y9⟩ := B1.c10
    go_wp2
    go_ret
    exact ⟨rfl, D0⟩
  subst e_k
  have n_k : (k != k) = false := by simp
  by_cases e_f : f = f₂
  rotate_left
  · have e := e_f
    have n_f : (f != f₂) = true := bne_iff_ne.2 e
    obtain rfl : b = false := by cases b; rfl; exact absurd (hb.2 rfl).2.1 e
    clear hb e e_f
    go_enter Tryd.func31, Tryd.ntmps31
    go_upto_region 1 with fail
    rw [HWB.out]
    generalize Value.agg #[.int .i64 k, .int .i64 f, .int .i64 t, .int .u64 (te : Int), .int .u64 (ix : Int), .int .u64 (pr : Int), .int .u64 (co : Int), .bool ok, .slice dA dn dc, .slice eA n ec] = V
    generalize Value.agg #[.int .i64 k, .int .i64 f₂, .int .i64 t₂, .int .u64 (te₂ : Int), .int .u64 (ix₂ : Int), .int .u64 (pr₂ : Int), .int .u64 (co₂ : Int), .bool ok₂, .slice dA₂ dm dc₂, .slice eA₂ m ec₂] = V2
    obtain ⟨x0, x1, x2, x3, x4, x5, x6, x7, x8, x9⟩ := B0.c10
    obtain ⟨y0, y1, y2, y3, y4, y5, y6, y7, y8, y9⟩ := B1.c10
    go_wp2
    go_ret
    exact ⟨rfl, D0⟩
  subst e_f
  have n_f : (f != f) = false := by simp
  by_cases e_t : t = t₂
  rotate_left
  · have e := e_t
    have n_t : (t != t₂) = true := bne_iff_ne.2 e
    obtain rfl : b = false := by cases b; rfl; exact absurd (hb.2 rfl).2.2.1 e
    clear hb e e_t
    go_enter Tryd.func31, Tryd.ntmps31
    go_upto_region 1 with fail
    rw [HWB.out]
    generalize Value.agg #[.int .i64 k, .int .i64 f, .int .i64 t, .int .u64 (te : Int), .int .u64 (ix : Int), .int .u64 (pr : Int), .int .u64 (co : Int), .bool ok, .slice dA dn dc, .slice eA n ec] = V
    generalize Value.agg #[.int .i64 k, .int .i64 f, .int .i64 t₂, .int .u64 (te₂ : Int), .int .u64 (ix₂ : Int), .int .u64 (pr₂ : Int), .int .u64 (co₂ : Int), .bool ok₂, .slice dA₂ dm dc₂, .slice eA₂ m ec₂] = V2
    obtain ⟨x0, x1, x2, x3, x4, x5, x6, x7, x8, x9⟩ := B0.c10
    obtain ⟨y0, y1, y2, y3, y4, y5, y6, y7, y8, y9⟩ := B1.c10
    go_wp2
    go_ret
    exact ⟨rfl, D0⟩
  subst e_t
  have n_t : (t != t) = false := by simp
  by_cases e_ok : ok = ok₂
  rotate_left
  · have e := e_ok
    have n_ok : (!(ok == ok₂)) = true := by rw [beq_eq_false_iff_ne.2 e]; rfl
    obtain rfl : b = false := by cases b; rfl; exact absurd (hb.2 rfl).2.2.2.2.2.2.2.1 e
    clear hb e e_ok
    go_enter Tryd.func31, Tryd.ntmps31
    go_upto_region 1 with fail
    rw [HWB.out]
    generalize Value.agg #[.int .i64 k, .int .i64 f, .int .i64 t, .int .u64 (te : Int), .int .u64 (ix : Int), .int .u64 (pr : Int), .int .u64 (co : Int), .bool ok, .slice dA dn dc, .slice eA n ec] = V
    generalize Value.agg #[.int .i64 k, .int .i64 f, .int .i64 t, .int .u64 (te₂ : Int), .int .u64 (ix₂ : Int), .int .u64 (pr₂ : Int), .int .u64 (co₂ : Int), .bool ok₂, .slice dA₂ dm dc₂, .slice eA₂ m ec₂] = V2
    obtain ⟨x0, x1, x2, x3, x4, x5, x6, x7, x8, x9⟩ := B0.c10
    obtain ⟨y0, y1, y2, y3, y4, y5, y6, y7, y8, y9⟩ := B1.c10
    go_wp2
    go_ret
    exact ⟨rfl, D0⟩
  subst e_ok
  have n_ok : (!(ok == ok)) = false := by simp
  by_cases e_te : te = te₂
  rotate_left
  · have e := e_te
    have n_te : ((te : Int) != (te₂ : Int)) = true := bne_iff_ne.2 (by omega)
    obtain rfl : b = false := by cases b; rfl; exact absurd (hb.2 rfl).2.2.2.1 e
    clear hb e e_te
    go_enter Tryd.func31, Tryd.ntmps31
    go_upto_region 1 with fail
    rw [HWB.out]
    generalize Value.agg #[.int .i64 k, .int .i64 f, .int .i64 t, .int .u64 (te : Int), .int .u64 (ix : Int), .int .u64 (pr : Int), .int .u64 (co : Int), .bool ok, .slice dA dn dc, .slice eA n ec] = V
    generalize Value.agg #[.int .i64 k, .int .i64 f, .int .i64 t, .int .u64 (te₂ : Int), .int .u64 (ix₂ : Int), .int .u64 (pr₂ : Int), .int .u64 (co₂ : Int), .bool ok, .slice dA₂ dm dc₂, .slice eA₂ m ec₂] = V2
    obtain ⟨x0, x1, x2, x3, x4, x5, x6, x7, x8, x9⟩ := B0.c10
    obtain ⟨y0, y1, y2, y3, y4, y5, y6, y7, y8, y9⟩ := B1.c10
    go_wp2
    go_ret
    exact ⟨rfl, D0⟩
  subst e_te
  have n_te : ((te : Int) != (te : Int)) = false := by simp
  by_cases e_ix : ix = ix₂
  rotate_left
  · have e := e_ix
    have n_ix : ((ix : Int) != (ix₂ : Int)) = true := bne_iff_ne.2 (by omega)
    obtain rfl : b = false := by cases b; rfl; exact absurd (hb.2 rfl).2.2.2.2.1 e
    clear hb e e_ix
    go_enter Tryd.func31, Tryd.ntmps31
    go_upto_region 1 with fail
    rw [HWB.out]
    generalize Value.agg #[.int .i64 k, .int .i64 f, .int .i64 t, .int .u64 (te : Int), .int .u64 (ix : Int), .int .u64 (pr : Int), .int .u64 (co : Int), .bool ok, .slice dA dn dc, .slice eA n ec] = V
    generalize Value.agg #[.int .i64 k, .int .i64 f, .int .i64 t, .int .u64 (te : Int), .int .u64 (ix₂ : Int), .int .u64 (pr₂ : Int), .int .u64 (co₂ : Int), .bool ok, .slice dA₂ dm dc₂, .slice eA₂ m ec₂] = V2
    obtain ⟨x0, x1, x2, x3, x4, x5, x6, x7, x8, x9⟩ := B0.c10
    obtain ⟨y0, y1, y2, y3, y4, y5, y6, y7, y8, y9⟩ := B1.c10
    go_wp2
    go_ret
    exact ⟨rfl, D0⟩
  subst e_ix
  have n_ix : ((ix : Int) != (ix : Int)) = false := by simp
  by_cases e_pr : pr = pr₂
  rotate_left
  · have e := e_pr
    have n_pr : ((pr : Int) != (pr₂ : Int)) = true := bne_iff_ne.2 (by omega)
    obtain rfl : b = false := by cases b; rfl; exact absurd (hb.2 rfl).2.2.2.2.2.1 e
    clear hb e e_pr
    go_enter Tryd.func31, Tryd.ntmps31
    go_upto_region 1 with fail
    rw [HWB.out]
    generalize Value.agg #[.int .i64 k, .int .i64 f, .int .i64 t, .int .u64 (te : Int), .int .u64 (ix : Int), .int .u64 (pr : Int), .int .u64 (co : Int), .bool ok, .slice dA dn dc, .slice eA n ec] = V
    generalize Value.agg #[.int .i64 k, .int .i64 f, .int .i64 t, .int .u64 (te : Int), .int .u64 (ix : Int), .int .u64 (pr₂ : Int), .int .u64 (co₂ : Int), .bool ok, .slice dA₂ dm dc₂, .slice eA₂ m ec₂] = V2
    obtain ⟨x0, x1, x2, x3, x4, x5, x6, x7, x8, x9⟩ := B0.c10
    obtain ⟨y0, y1, y2, y3, y4, y5, y6, y7, y8, y9⟩ := B1.c10
    go_wp2
    go_ret
    exact ⟨rfl, D0⟩
  subst e_pr
  have n_pr : ((pr : Int) != (pr : Int)) = false := by simp
  by_cases e_co : co = co₂
  rotate_left
  · have e := e_co
    have n_co : ((co : Int) != (co₂ : Int)) = true := bne_iff_ne.2 (by omega)
    obtain rfl : b = false := by cases b; rfl; exact absurd (hb.2 rfl).2.2.2.2.2.2.1 e
    clear hb e e_co
    go_enter Tryd.func31, Tryd.ntmps31
    go_upto_region 1 with fail
    rw [HWB.out]
    generalize Value.agg #[.int .i64 k, .int .i64 f, .int .i64 t, .int .u64 (te : Int), .int .u64 (ix : Int), .int .u64 (pr : Int), .int .u64 (co : Int), .bool ok, .slice dA dn dc, .slice eA n ec] = V
    generalize Value.agg #[.int .i64 k, .int .i64 f, .int .i64 t, .int .u64 (te : Int), .int .u64 (ix : Int), .int .u64 (pr : Int), .int .u64 (co₂ : Int), .bool ok, .slice dA₂ dm dc₂, .slice eA₂ m ec₂] = V2
    obtain ⟨x0, x1, x2, x3, x4, x5, x6, x7, x8, x9⟩ := B0.c10
    obtain ⟨y0, y1, y2, y3, y4, y5, y6, y7, y8, y9⟩ := B1.c10
    go_wp2
    go_ret
    exact ⟨rfl, D0⟩
  subst e_co
  have n_co : ((co : Int) != (co : Int)) = false := by simp
  have hb' : (d = d₂ ∧ es.map Ent.key = es₂.map Ent.key) ↔ b = true := ⟨fun h => hb.1 ⟨rfl, rfl, rfl, rfl, rfl, rfl, rfl, rfl, h.1, h.2⟩, fun h => (hb.2 h).2.2.2.2.2.2.2.2⟩
  clear hb
  by_cases ed : d = d₂
  · obtain ⟨q0, hq0⟩ : ∃ q0, decide (es.map Ent.key = es₂.map Ent.key) = q0 := ⟨_, rfl⟩
    have hbq : q0 = b := by
      rw [← hq0]
      by_cases h : es.map Ent.key = es₂.map Ent.key
      · rw [decide_eq_true h, hb'.1 ⟨ed, h⟩]
      · rw [decide_eq_false h]
        cases b
        · rfl
        · exact absurd (hb'.2 rfl).2 h
    have HS : Hid ((d == d₂) = true) := beq_iff_eq.2 ed
    have HQ : Hid (decide (es.map Ent.key = es₂.map Ent.key) = q0) := hq0
    clear hq0 hb' ed
    go_enter Tryd.func31, Tryd.ntmps31
    go_upto_region 1 with fail
    rw [HWB.out]
    generalize Value.agg #[.int .i64 k, .int .i64 f, .int .i64 t, .int .u64 (te : Int), .int .u64 (ix : Int), .int .u64 (pr : Int), .int .u64 (co : Int), .bool ok, .slice dA dn dc, .slice eA n ec] = V
    generalize Value.agg #[.int .i64 k, .int .i64 f, .int .i64 t, .int .u64 (te : Int), .int .u64 (ix : Int), .int .u64 (pr : Int), .int .u64 (co : Int), .bool ok, .slice dA₂ dm dc₂, .slice eA₂ m ec₂] = V2
    obtain ⟨x0, x1, x2, x3, x4, x5, x6, x7, x8, x9⟩ := B0.c10
    obtain ⟨y0, y1, y2, y3, y4, y5, y6, y7, y8, y9⟩ := B1.c10
    go_wp2_with fail
    refine (same_quiet (b := true) SD.out SD2.out HS.out).mono ?_
    rintro e w1 ⟨rfl, q1, rfl⟩
    go_wp2_with fail
    refine (entries_gen _ _ _ _ _ _ _ _ _ _ _ _ _ (SE.out.drewN q1) (SE2.out.drewN q1) (ED.out.drewN q1) (ED2.out.drewN q1)).mono ?_
    rintro e w1 ⟨rfl, q2, rfl⟩
    rw [HQ.out]
    go_wp2
    go_ret
    exact ⟨rfl, by first | exact below_drewN (below_drewN D0 q1) q2 | exact below_drewN D0 _⟩
  · obtain rfl : b = false := by cases b; rfl; exact absurd (hb'.2 rfl).1 ed
    have HS : Hid ((d == d₂) = false) := beq_eq_false_iff_ne.2 ed
    clear hb' ed
    go_enter Tryd.func31, Tryd.ntmps31
    go_upto_region 1 with fail
    rw [HWB.out]
    generalize Value.agg #[.int .i64 k, .int .i64 f, .int .i64 t, .int .u64 (te : Int), .int .u64 (ix : Int), .int .u64 (pr : Int), .int .u64 (co : Int), .bool ok, .slice dA dn dc, .slice eA n ec] = V
    generalize Value.agg #[.int .i64 k, .int .i64 f, .int .i64 t, .int .u64 (te : Int), .int .u64 (ix : Int), .int .u64 (pr : Int), .int .u64 (co : Int), .bool ok, .slice dA₂ dm dc₂, .slice eA₂ m ec₂] = V2
    obtain ⟨x0, x1, x2, x3, x4, x5, x6, x7, x8, x9⟩ := B0.c10
    obtain ⟨y0, y1, y2, y3, y4, y5, y6, y7, y8, y9⟩ := B1.c10
    go_wp2_with fail
    refine (same_quiet (b := false) SD.out SD2.out HS.out).mono ?_
    rintro e w1 ⟨rfl, q1, rfl⟩
    go_wp2
    go_ret
    exact ⟨rfl, below_drewN D0 q1⟩
end Go.Proofs.YtciolppoanfiaaaDoor

/- Rows of messages: cells in tens. -/
namespace Go.Proofs.YtciolppoanfiaaaDoor
open Go.RowKit
def mlist (m : Msg) : List Value := [.int .i64 m.k, .int .i64 m.f, .int .i64 m.t, .int .u64 (m.te : Int), .int .u64 (m.ix : Int), .int .u64 (m.pr : Int), .int .u64 (m.co : Int), .bool m.ok, .slice m.dA m.d.length m.dc, .slice m.eA m.es.length m.ec]
theorem mlist_v (m : Msg) : m.v = .agg (mlist m).toArray := rfl
def mscells : List Msg → List Value
  | [] => []
  | m :: ms => .int .i64 m.k :: .int .i64 m.f :: .int .i64 m.t :: .int .u64 (m.te : Int) :: .int .u64 (m.ix : Int) :: .int .u64 (m.pr : Int) :: .int .u64 (m.co : Int) :: .bool m.ok :: .slice m.dA m.d.length m.dc :: .slice m.eA m.es.length m.ec :: mscells ms
theorem mscells_len (ms : List Msg) : (mscells ms).length = ms.length * 10 := by
  induction ms with
  | nil => rfl
  | cons m ms ih => simp only [mscells, List.length_cons, ih]; omega
theorem mscells_append (ms ns : List Msg) : mscells (ms ++ ns) = mscells ms ++ mscells ns := by
  induction ms with
  | nil => rfl
  | cons m ms ih => simp only [mscells, List.cons_append, ih]
theorem mscells_one' (m : Msg) : mscells [m] = mlist m := rfl
theorem mscells_drop (ms : List Msg) (k : Nat) : mscells (ms.drop k) = (mscells ms).drop (k * 10) := by
  induction k generalizing ms with
  | zero => simp
  | succ k ih =>
    cases ms with
    | nil => simp [mscells]
    | cons m ms =>
      rw [Nat.succ_mul]
      simp only [mscells, List.drop_succ_cons]
      exact ih ms
theorem mscells_take (ms : List Msg) (k : Nat) : mscells (ms.take k) = (mscells ms).take (k * 10) := by
  induction k generalizing ms with
  | zero => simp [mscells]
  | succ k ih =>
    cases ms with
    | nil => simp [mscells]
    | cons m ms =>
      rw [Nat.succ_mul]
      simp only [mscells, List.take_succ_cons]
      rw [ih ms]
theorem mscells_at (ms : List Msg) (k : Nat) (m : Msg) (h : ms[k]? = some m) : (mscells ms)[k * 10]? = some (.int .i64 m.k) ∧ (mscells ms)[k * 10 + 1]? = some (.int .i64 m.f) ∧ (mscells ms)[k * 10 + 2]? = some (.int .i64 m.t) ∧ (mscells ms)[k * 10 + 3]? = some (.int .u64 (m.te : Int)) ∧ (mscells ms)[k * 10 + 4]? = some (.int .u64 (m.ix : Int)) ∧ (mscells ms)[k * 10 + 5]? = some (.int .u64 (m.pr : Int)) ∧ (mscells ms)[k * 10 + 6]? = some (.int .u64 (m.co : Int)) ∧ (mscells ms)[k * 10 + 7]? = some (.bool m.ok) ∧ (mscells ms)[k * 10 + 8]? = some (.slice m.dA m.d.length m.dc) ∧ (mscells ms)[k * 10 + 9]? = some (.slice m.eA m.es.length m.ec) := by
  induction k generalizing ms with
  | zero =>
    cases ms with
    | nil => simp at h
    | cons x ms =>
      simp at h
      subst h
      exact ⟨rfl, rfl, rfl, rfl, rfl, rfl, rfl, rfl, rfl, rfl⟩
  | succ k ih =>
    cases ms with
    | nil => simp at h
    | cons x ms =>
      have := ih ms (by simpa using h)
      rw [Nat.succ_mul]
      simpa only [mscells, Nat.add_right_comm _ 10, List.getElem?_cons_succ] using this
theorem ms_one (ms : List Msg) : ∀ u ∈ mscells ms, u.oneCell' = true := by
  induction ms with
  | nil => intro u hu; cases hu
  | cons m ms ih =>
    intro u hu
    simp only [mscells, List.mem_cons] at hu
    rcases hu with rfl | rfl | rfl | rfl | rfl | rfl | rfl | rfl | rfl | rfl | hu
    all_goals first | rfl | exact ih u hu
theorem msg_info : (Tryd.prog.info? 41).map (fun i => (i.zero, i.size, i.bytes)) = some (some (.agg #[.int .i64 0, .int .i64 0, .int .i64 0, .int .u64 0, .int .u64 0, .int .u64 0, .int .u64 0, .bool false, .slice none 0 0, .slice none 0 0]), 10, 112) := by kernel_rfl
theorem Sl.msgAt {w : World} {lo hi n c k : Nat} {ad : Addr} {ms : List Msg} {m : Msg} (h : Sl w lo hi 10 (some ad) n c (mscells ms)) (hm : ms[k]? = some m) :
    w.cell? (ad.add (k * 10)) = some (.int .i64 m.k) ∧ w.cell? ⟨(ad.add (k * 10)).block, (ad.add (k * 10)).off + 1, none⟩ = some (.int .i64 m.f) ∧ w.cell? ⟨(ad.add (k * 10)).block, (ad.add (k * 10)).off + 2, none⟩ = some (.int .i64 m.t) ∧ w.cell? ⟨(ad.add (k * 10)).block, (ad.add (k * 10)).off + 3, none⟩ = some (.int .u64 (m.te : Int)) ∧ w.cell? ⟨(ad.add (k * 10)).block, (ad.add (k * 10)).off + 4, none⟩ = some (.int .u64 (m.ix : Int)) ∧ w.cell? ⟨(ad.add (k * 10)).block, (ad.add (k * 10)).off + 5, none⟩ = some (.int .u64 (m.pr : Int)) ∧ w.cell? ⟨(ad.add (k * 10)).block, (ad.add (k * 10)).off + 6, none⟩ = some (.int .u64 (m.co : Int)) ∧ w.cell? ⟨(ad.add (k * 10)).block, (ad.add (k * 10)).off + 7, none⟩ = some (.bool m.ok) ∧ w.cell? ⟨(ad.add (k * 10)).block, (ad.add (k * 10)).off + 8, none⟩ = some (.slice m.dA m.d.length m.dc) ∧ w.cell? ⟨(ad.add (k * 10)).block, (ad.add (k * 10)).off + 9, none⟩ = some (.slice m.eA m.es.length m.ec) := by
  have hl : k < ms.length := (List.getElem?_eq_some_iff.1 hm).1
  have hk : k < n := by have := h.len; rw [mscells_len] at this; omega
  obtain ⟨ad', e, _, _, hc⟩ := h.at_ (by omega)
  injection e with e
  subst e
  obtain ⟨h0, h1, h2, h3, h4, h5, h6, h7, h8, h9⟩ := mscells_at ms k m hm
  have a0 := hc _ _ h0
  have go : ∀ j u, (mscells ms)[k * 10 + j]? = some u → w.cell? ⟨(ad.add (k * 10)).block, (ad.add (k * 10)).off + j, none⟩ = some u := fun j u hu => by
    rw [← add_off a0, add_of_add]; exact hc _ _ hu
  exact ⟨a0, go 1 _ h1, go 2 _ h2, go 3 _ h3, go 4 _ h4, go 5 _ h5, go 6 _ h6, go 7 _ h7, go 8 _ h8, go 9 _ h9⟩
/-- the block just laid, as one message's cells -/
theorem sl_msg (w : World) (m : Msg) : Sl (w.alloc (.cells (mlist m).toArray 41)) w.heap.size (w.heap.size + 1) 10 (some ⟨w.heap.size, 0, none⟩) 1 1 (mscells [m]) :=
  sl_new w 10 1 1 (mlist m).toArray _ rfl (Nat.le_refl _) (by decide)
end Go.Proofs.YtciolppoanfiaaaDoor
