/- A node that asks. -/
import Derived.Test.YtbgdepaffgeinaaElLead
import Derived.BigRegion
namespace Go.Proofs.Ytbgdepaffgeinaa
open Go.RowKit
theorem contains_quiet {A : Option Addr} {n c lo hi : Nat} {xs : List Int} {v : Int} {w : World} (hs : Sl w lo hi 1 A n c (xs.map iv)) {b : Bool} (hb : xs.contains v = b) :
    Calls Try.prog 61 #[.slice A n c, .int .i64 v] w fun e w' => e = .returned (.bool b) ∧ ∃ q, w' = w.drewN q :=
  (contains_any A n c lo hi xs v w hs hb).mono fun _ _ ⟨h1, h2⟩ => ⟨h1, 0, by rw [← h2]; rfl⟩
theorem agrees_quiet {A B : Option Addr} {n c m d lo hi lo' hi' : Nat} {xs ys : List Int} {w : World} (hs : Sl w lo hi 1 A n c (xs.map iv)) (ht : Sl w lo' hi' 1 B m d (ys.map iv)) (hn : n ≤ 1000) {r : Bool} (hr : agrees xs ys = r) :
    Calls Try.prog 62 #[.slice A n c, .slice B m d] w fun e w' => e = .returned (.bool r) ∧ ∃ q, w' = w.drewN q :=
  (agrees_any A B n c m d lo hi lo' hi' xs ys w hs ht hn hr).mono fun _ _ ⟨h1, h2⟩ => ⟨h1, 0, by rw [← h2]; rfl⟩
theorem cell_off {w : World} {b i : Nat} {v : Value} (h : w.cell? ⟨b, i, none⟩ = some v) {j : Nat} (hne : i ≠ j) (u : Value) : (w.setCell ⟨b, j, none⟩ u).cell? ⟨b, i, none⟩ = some v :=
  (World.cell?_setCell_other w _ _ u (fun e => hne (congrArg Addr.off e).symm)).trans h
theorem grown_drew {a w : World} {r : Option Nat} (h : a.grownBy w r) : a.grownBy w.drew r := ⟨h.os, h.tape, h.output, h.size, h.block⟩
/-- behind a world: what lay there lies there still -/
def Aft (w W : World) : Prop := Below w.heap.size w W
theorem Aft.refl (w : World) : Aft w w := Below.refl _ _
theorem Aft.size {w W : World} (h : Aft w W) : w.heap.size ≤ W.heap.size := Below.size h
theorem Aft.alloc {w W : World} (h : Aft w W) (o : Obj) : Aft w (W.alloc o) := Below.alloc h h.size o
theorem Aft.drew {w W : World} (h : Aft w W) : Aft w W.drew := Below.drew h
theorem Aft.set {w W : World} (h : Aft w W) {g : Nat} (hg : w.heap.size ≤ g) (i : Nat) (u : Value) : Aft w (W.setCell ⟨g, i, none⟩ u) := Below.setCell h (p := ⟨g, i, none⟩) hg u
theorem Aft.call {w W W' : World} (h : Aft w W) (hb : Below W.heap.size W W') : Aft w W' := Below.trans h (hb.mono h.size)
structure ND.Ok (x : ND) : Prop where
  base : x.base < 1152921504606846976
  es : x.es.length ≤ 900
  conf : x.conf.length ≤ 1000
  me0 : 0 ≤ x.me
  me16 : x.me < 16
  term : x.term < 4611686018427387904
/-- what a node is behind a call, and what it sends -/
def Sent (H : Nat) (w w' : World) (O : Nat → Prop) (b : Nat) (v : Value) (r : ND × List Ms) : Prop :=
  ∃ p' O', NodeP H w' O' b p' r.1 ∧ Sub O w O' ∧ Chg O w w' ∧ w'.ownsRow w.heap.size 81 10 v r.2.length (mcells r.2) ∧ ∀ k, v.ownBlock = some k → ¬ O' k
section
variable {H : Nat} {O : Nat → Prop} {b : Nat} {p : NP} {x : ND}
theorem grown_set_new {a w : World} {r : Option Nat} (h : a.grownBy w r) {g : Nat} (hg : a.heap.size ≤ g) (i : Nat) (u : Value) : a.grownBy (w.setCell ⟨g, i, none⟩ u) r :=
  ⟨h.os, h.tape, h.output, by simpa using h.size, fun k hk hr => (Below.heap_setCell w ⟨g, i, none⟩ u k (fun e => by have e' : k = g := e; omega)).trans (h.block k hk hr)⟩
theorem own_whole (w : World) (base size n : Nat) (e : TypeId) (cur : Array Value) (hb : base ≤ w.heap.size) (hm : n ≤ maxLen) (hs : cur.size = n * size) : (w.alloc (.cells cur e)).ownsRow base e size (.slice (some ⟨w.heap.size, 0, none⟩) n n) n cur.toList :=
  ⟨by simpa using hs, .inr ⟨w.heap.size, n, cur, rfl, hb, heap_alloc_new w _, Nat.le_refl _, hm, hs, by rw [List.take_of_length_le (by simp [hs])]⟩⟩
def ND.asked (x : ND) : ND := { x with lead := -1, yes := [x.me] }
/-- the node's yes are a new row of itself alone -/
theorem NodeP.asked {w wc : World} {y : ND} (h : NodeP H w O b p x) (hge : w.grownBy wc (some b)) (hbe : Blk wc b 75 (p.cells y)) (hconf : y.conf = x.conf) (hes : y.es = x.es) (hn : y.next = x.next) (hm : y.mt = x.mt) (hme : y.me = x.me) :
    NodeP H (((wc.setCell ⟨b, 3, none⟩ (.int .i64 (-1))).setCell ⟨b, 5, none⟩ (.slice (some ⟨wc.heap.size, 0, none⟩) 1 1)).alloc (.cells #[.int .i64 x.me] 3)) (fun k => O k ∨ k = wc.heap.size) b { p with yv := .slice (some ⟨wc.heap.size, 0, none⟩) 1 1 } y.asked ∧
    w.grownBy (((wc.setCell ⟨b, 3, none⟩ (.int .i64 (-1))).setCell ⟨b, 5, none⟩ (.slice (some ⟨wc.heap.size, 0, none⟩) 1 1)).alloc (.cells #[.int .i64 x.me] 3)) (some b) := by
  have hg := grown_alloc (only_setCell (only_setCell hge 3 (.int .i64 (-1))) 5 (.slice (some ⟨wc.heap.size, 0, none⟩) 1 1)) (.cells #[.int .i64 x.me] 3)
  have hb := ((hbe.set_ 3 (.int .i64 (-1))).set_ 5 (.slice (some ⟨wc.heap.size, 0, none⟩) 1 1)).alloc (.cells #[.int .i64 x.me] 3)
  have hbl := hbe.lt
  have hrow2 := own_whole ((wc.setCell ⟨b, 3, none⟩ (.int .i64 (-1))).setCell ⟨b, 5, none⟩ (.slice (some ⟨wc.heap.size, 0, none⟩) 1 1)) wc.heap.size 1 1 3 #[.int .i64 x.me] (by simp) (by simp [maxLen]) (by simp)
  simp only [size_setCell'] at hrow2
  have far : ∀ {size n : Nat} {e : TypeId} {v : Value} {xs : List Value}, 75 ≠ e → w.ownsRow 0 e size v n xs → World.ownsRow _ 0 e size v n xs := fun ht hr => hr.kept hg (.inr (row_ne hr h.blk ht))
  have hws : w.heap.size ≤ wc.heap.size := hge.size
  refine ⟨h.upd _ (fun k h => .inl h) (fun k hk => hk.elim (h.low k) (fun e => by have := h.size; omega)) (fun k hk => hk.elim (fun h' => by have := h.top k h'; simp; omega) (fun e => by simp; omega)) (Chg.grown hg fun k e => by cases e; exact .inl (.inl rfl)) ?_ ?_ hconf (own_wide hrow2 (Nat.zero_le _) |> fun hr => by simpa [ND.asked, hme, iv] using hr) (.inr fun k hk => ?_) rfl ?_ rfl ?_ (.inl ⟨rfl, rfl, rfl, hes⟩), hg⟩
  · simpa [NP.cells, ND.asked] using hb
  · unfold NP.cv ND.asked
    rw [hconf]
  · have : k = wc.heap.size := by simpa [Value.ownBlock] using hk.symm
    subst this
    exact ⟨hws, .inr rfl⟩
  · show World.ownsRow _ _ _ _ _ _ (y.next.map uv)
    rw [hn]
    exact far (by decide) h.next
  · show World.ownsRow _ _ _ _ _ _ (y.mt.map uv)
    rw [hm]
    exact far (by decide) h.mt
theorem Sent.none_ {w w' : World} {p' : NP} {O' : Nat → Prop} {y : ND} (h : NodeP H w' O' b p' y) (hs : Sub O w O') (hc : Chg O w w') : Sent H w w' O b (.slice none 0 0) (y, []) :=
  ⟨p', O', h, hs, hc, World.ownsRow_nil _ _ _ _, fun k hk => by cases hk⟩
/-- first the node turns, then something is called that sends -/
theorem Sent.behind {w wf w2 : World} {O1 : Nat → Prop} {v : Value} {r : ND × List Ms} (hg : Chg O w wf) (hs : Sub O w O1) (h : Sent H wf w2 O1 b v r) : Sent H w w2 O b v r := by
  obtain ⟨p', O', hN, hs', hc, hrow, hap⟩ := h
  exact ⟨p', O', hN, hs.trans hs' hg.size, hg.trans hs hc, own_wide hrow hg.size, hap⟩
theorem Sent.rows {w w2 : World} {v : Value} {ms : List Ms} (h : NodeP H w O b p x) (hb : Below w.heap.size w w2) (hrow : w2.ownsRow w.heap.size 81 10 v ms.length (mcells ms)) : Sent H w w2 O b v (x, ms) :=
  ⟨p, O, h.after hb, Sub.refl _ _, Chg.below hb, hrow, fun k hk hO => by have := (hrow.lt k hk).1; have := h.top k hO; omega⟩
set_option maxRecDepth 100000 in
set_option maxHeartbeats 1600000 in
theorem chosen_real (w : World) (h : NodeP H w O b p x) (hbase : x.base < 1152921504606846976) (hes : x.es.length ≤ 900) (hme : 0 ≤ x.me) (hme2 : x.me < 16) (hr : x.role = 2) :
    Calls Try.prog 63 #[.pointer (some ⟨b, 0, none⟩)] w fun e w' => ∃ v, e = .returned v ∧ Sent H w w' O b v (x.toLead, []) := by
  have hL := elead_any w h hbase hes hme hme2
  have x2 : w.cell? ⟨b, 2, none⟩ = some (.int .i64 x.role) := h.blk.cell 2
  rw [hr] at x2
  have HL := Lib.hid hL
  clear hL h hr
  go_enter Try.func63, Try.ntmps63
  go_wp2_with fail
  refine HL.out.mono ?_
  rintro e w2 ⟨rfl, p', O', hN, hs, hc⟩
  go_wp2
  go_ret
  exact ⟨_, rfl, Sent.none_ hN hs hc⟩
set_option maxRecDepth 100000 in
set_option maxHeartbeats 6400000 in
theorem ask_real (w : World) (h : NodeP H w O b p x) (hok : x.Ok) :
    Calls Try.prog 34 #[.pointer (some ⟨b, 0, none⟩), .bool true] w fun e w' => ∃ v, e = .returned v ∧ Sent H w w' O b v x.askReal := by
  have hB := h.blk
  obtain ⟨cA, cc, yv, eA, ec, er, nv, mv⟩ := p
  have x0 : w.cell? ⟨b, 0, none⟩ = some (.int .i64 x.me) := hB.cell 0
  have x4 : w.cell? ⟨b, 4, none⟩ = some (.slice cA x.conf.length cc) := hB.cell 4
  obtain ⟨A', c', hv', hsc⟩ := own_sl h.conf
  injection hv' with e1 e2 e3
  clear e2
  subst e1 e3
  have HSC := Lib.hid hsc
  have hcl := hok.conf
  have HOK := Lib.hid hok
  have HH := Lib.hid h
  clear hB hsc
  cases hin : x.conf.contains x.me with
  | false =>
    have HIN := Lib.hid hin
    clear hin h hok
    go_enter Try.func34, Try.ntmps34
    go_wp2
    go_quiet ((go_at_call 61; exact Calls.quiet_of (contains_quiet (HSC.out.drewN _) HIN.out)))
    go_wp2
    go_ret
    have he : x.askReal = (x, []) := by unfold ND.askReal; rw [HIN.out]; rfl
    rw [he]
    exact ⟨_, rfl, Sent.none_ (HH.out.drewN _) (Sub.refl _ _) ((Chg.refl _ _).drewN _)⟩
  | true =>
    have HIN := Lib.hid hin
    have x6 : w.cell? ⟨b, 6, none⟩ = some (.int .u64 (x.term : Int)) := h.blk.cell 6
    have x8 : w.cell? ⟨b, 8, none⟩ = some (.int .u64 (x.base : Int)) := h.blk.cell 8
    have x9 : w.cell? ⟨b, 9, none⟩ = some (.int .u64 (x.bt : Int)) := h.blk.cell 9
    have x10 : w.cell? ⟨b, 10, none⟩ = some (.slice eA x.es.length ec) := h.blk.cell 10
    clear hin h hok
    go_enter Try.func34, Try.ntmps34
    go_wp2
    go_quiet ((go_at_call 61; exact Calls.quiet_of (contains_quiet (HSC.out.drewN _) HIN.out)))
    go_wp2
    have HT : Hid (∀ W, Aft w W → Calls Try.prog 20 #[.agg #[.int .u64 (x.base : Int), .int .u64 (x.bt : Int), .slice eA x.es.length ec]] W fun e w' => e = .returned (.int .u64 (x.lastT : Int)) ∧ Below W.heap.size W w') := fun W hW => lastTerm_any x.base x.bt x.es.length ec er (er + 1) eA x.es W (HH.out.es.after (by decide) hW) HOK.out.base (by have := HOK.out.es; omega)
    have HL : Hid (∀ W, Calls Try.prog 15 #[.agg #[.int .u64 (x.base : Int), .int .u64 (x.bt : Int), .slice eA x.es.length ec]] W fun e w' => e = .returned (.int .u64 (x.last : Int)) ∧ Below W.heap.size W w') := fun W => by
      have := last_any x.base x.es.length ec (x.bt : Int) eA W HOK.out.base (by have := HOK.out.es; omega)
      rwa [show (x.base : Int) + (x.es.length : Int) = (x.last : Int) from by unfold ND.last; omega] at this
    have hterm := HOK.out.term
    have hw : IntKind.u64.wrap ((x.term : Int) + 1) = (x.term : Int) + 1 := by rw [IntKind.wrap_u64]; omega
    have HK : Hid (∀ W, Aft w W → W.cell? ⟨b, 6, none⟩ = some (.int .u64 (x.term : Int)) ∧ W.cell? ⟨b, 8, none⟩ = some (.int .u64 (x.base : Int)) ∧ W.cell? ⟨b, 9, none⟩ = some (.int .u64 (x.bt : Int)) ∧ W.cell? ⟨b, 10, none⟩ = some (.slice eA x.es.length ec) ∧ Aft w W) := fun W hW => ⟨cell_below hW x6, cell_below hW x8, cell_below hW x9, cell_below hW x10, hW⟩
    have hA0 : Aft w (w.drewN nq) := below_drewN (Below.refl _ _) _
    generalize w.drewN nq = wq at hA0 ⊢
    have hA1 : Aft w wq.drew := hA0.drew
    have hw0 : w.heap.size ≤ wq.heap.size := hA0.size
    go_cut [5] (fun v wc => ∃ g, v = .pointer (some ⟨g, 0, none⟩) ∧ Blk wc g 81 #[.int .i64 3, .int .i64 0, .int .i64 0, .int .u64 ((x.term : Int) + 1), .int .u64 (x.last : Int), .int .u64 (x.lastT : Int), .int .u64 0, .bool false, .slice none 0 0, .slice none 0 0] ∧ w.heap.size ≤ g ∧ Aft w wc)
    case first =>
      go_region_held3 (fun W' => W'.cell? ⟨b, 6, none⟩ = some (.int .u64 (x.term : Int)) ∧ W'.cell? ⟨b, 8, none⟩ = some (.int .u64 (x.base : Int)) ∧ W'.cell? ⟨b, 9, none⟩ = some (.int .u64 (x.bt : Int)) ∧ W'.cell? ⟨b, 10, none⟩ = some (.slice eA x.es.length ec) ∧ Aft w W') (first | (with_reducible exact HK.out _ hA1) | (with_reducible exact HK.out _ hA0) | (with_reducible (refine HK.out _ ?_; go_split_ands; first | assumption | exact Aft.alloc (by assumption) _ | exact Aft.drew (by assumption) | exact Aft.drew (Aft.alloc hA0 _) | ((repeat refine Aft.set ?_ (by first | exact hw0 | exact ha4.size | exact ha5.size) _ _); assumption) | ((repeat refine Aft.set ?_ (by first | exact hw0 | exact ha4.size | exact ha5.size) _ _); exact Aft.alloc (by assumption) _) | fail))) (first
        | (go_at_call 15; refine (HL.out _).mono ?_; rintro e w4 ⟨rfl, hb4⟩; have ha4 : Aft w w4 := Aft.call (by first | assumption | (go_split_ands; assumption)) hb4; first | (with_reducible have hmq := Blk.after hmq hb4; have z0 := hmq.frozen 0; have zc0 := hmq.cell 0; have z1 := hmq.frozen 1; have zc1 := hmq.cell 1; have z2 := hmq.frozen 2; have zc2 := hmq.cell 2; have z3 := hmq.frozen 3; have zc3 := hmq.cell 3; have z4 := hmq.frozen 4; have zc4 := hmq.cell 4; have z5 := hmq.frozen 5; have zc5 := hmq.cell 5; have z6 := hmq.frozen 6; have zc6 := hmq.cell 6; have z7 := hmq.frozen 7; have zc7 := hmq.cell 7; have z8 := hmq.frozen 8; have zc8 := hmq.cell 8; have z9 := hmq.frozen 9; have zc9 := hmq.cell 9; simp only [List.getElem?_toArray, List.getElem?_cons_zero, List.getElem?_cons_succ] at zc0 zc1 zc2 zc3 zc4 zc5 zc6 zc7 zc8 zc9) | (with_reducible have hbz : Below ((wq.drew).alloc (.cells #[.int .i64 0, .int .i64 0, .int .i64 0, .int .u64 0, .int .u64 0, .int .u64 0, .int .u64 0, .bool false, .slice none 0 0, .slice none 0 0] 81)).heap.size ((wq.drew).alloc (.cells #[.int .i64 0, .int .i64 0, .int .i64 0, .int .u64 0, .int .u64 0, .int .u64 0, .int .u64 0, .bool false, .slice none 0 0, .slice none 0 0] 81)) w4 := hb4; have hmq : Blk w4 wq.heap.size 81 #[.int .i64 0, .int .i64 0, .int .i64 0, .int .u64 0, .int .u64 0, .int .u64 0, .int .u64 0, .bool false, .slice none 0 0, .slice none 0 0] := Blk.after (Blk.new _ _ _) hbz; have z0 := hmq.frozen 0; have zc0 := hmq.cell 0; have z1 := hmq.frozen 1; have zc1 := hmq.cell 1; have z2 := hmq.frozen 2; have zc2 := hmq.cell 2; have z3 := hmq.frozen 3; have zc3 := hmq.cell 3; have z4 := hmq.frozen 4; have zc4 := hmq.cell 4; have z5 := hmq.frozen 5; have zc5 := hmq.cell 5; have z6 := hmq.frozen 6; have zc6 := hmq.cell 6; have z7 := hmq.frozen 7; have zc7 := hmq.cell 7; have z8 := hmq.frozen 8; have zc8 := hmq.cell 8; have z9 := hmq.frozen 9; have zc9 := hmq.cell 9; simp only [List.getElem?_toArray, List.getElem?_cons_zero, List.getElem?_cons_succ] at zc0 zc1 zc2 zc3 zc4 zc5 zc6 zc7 zc8 zc9) | (with_reducible have hbz : Below ((wq.alloc (.cells #[.int .i64 0, .int .i64 0, .int .i64 0, .int .u64 0, .int .u64 0, .int .u64 0, .int .u64 0, .bool false, .slice none 0 0, .slice none 0 0] 81)).drew).heap.size ((wq.alloc (.cells #[.int .i64 0, .int .i64 0, .int .i64 0, .int .u64 0, .int .u64 0, .int .u64 0, .int .u64 0, .bool false, .slice none 0 0, .slice none 0 0] 81)).drew) w4 := hb4; have hmq : Blk w4 wq.heap.size 81 #[.int .i64 0, .int .i64 0, .int .i64 0, .int .u64 0, .int .u64 0, .int .u64 0, .int .u64 0, .bool false, .slice none 0 0, .slice none 0 0] := Blk.after (Blk.drew (Blk.new _ _ _)) hbz; have z0 := hmq.frozen 0; have zc0 := hmq.cell 0; have z1 := hmq.frozen 1; have zc1 := hmq.cell 1; have z2 := hmq.frozen 2; have zc2 := hmq.cell 2; have z3 := hmq.frozen 3; have zc3 := hmq.cell 3; have z4 := hmq.frozen 4; have zc4 := hmq.cell 4; have z5 := hmq.frozen 5; have zc5 := hmq.cell 5; have z6 := hmq.frozen 6; have zc6 := hmq.cell 6; have z7 := hmq.frozen 7; have zc7 := hmq.cell 7; have z8 := hmq.frozen 8; have zc8 := hmq.cell 8; have z9 := hmq.frozen 9; have zc9 := hmq.cell 9; simp only [List.getElem?_toArray, List.getElem?_cons_zero, List.getElem?_cons_succ] at zc0 zc1 zc2 zc3 zc4 zc5 zc6 zc7 zc8 zc9) | (with_reducible have hbz : Below (w5.alloc (.cells #[.int .i64 0, .int .i64 0, .int .i64 0, .int .u64 0, .int .u64 0, .int .u64 0, .int .u64 0, .bool false, .slice none 0 0, .slice none 0 0] 81)).heap.size (w5.alloc (.cells #[.int .i64 0, .int .i64 0, .int .i64 0, .int .u64 0, .int .u64 0, .int .u64 0, .int .u64 0, .bool false, .slice none 0 0, .slice none 0 0] 81)) w4 := hb4; have hmq : Blk w4 w5.heap.size 81 #[.int .i64 0, .int .i64 0, .int .i64 0, .int .u64 0, .int .u64 0, .int .u64 0, .int .u64 0, .bool false, .slice none 0 0, .slice none 0 0] := Blk.after (Blk.new _ _ _) hbz; have z0 := hmq.frozen 0; have zc0 := hmq.cell 0; have z1 := hmq.frozen 1; have zc1 := hmq.cell 1; have z2 := hmq.frozen 2; have zc2 := hmq.cell 2; have z3 := hmq.frozen 3; have zc3 := hmq.cell 3; have z4 := hmq.frozen 4; have zc4 := hmq.cell 4; have z5 := hmq.frozen 5; have zc5 := hmq.cell 5; have z6 := hmq.frozen 6; have zc6 := hmq.cell 6; have z7 := hmq.frozen 7; have zc7 := hmq.cell 7; have z8 := hmq.frozen 8; have zc8 := hmq.cell 8; have z9 := hmq.frozen 9; have zc9 := hmq.cell 9; simp only [List.getElem?_toArray, List.getElem?_cons_zero, List.getElem?_cons_succ] at zc0 zc1 zc2 zc3 zc4 zc5 zc6 zc7 zc8 zc9) | skip)
        | (go_at_call 20; refine (HT.out _ (by first | assumption | (go_split_ands; assumption))).mono ?_; rintro e w5 ⟨rfl, hb5⟩; have ha5 : Aft w w5 := Aft.call (by first | assumption | (go_split_ands; assumption)) hb5; first | (with_reducible have hmq := Blk.after hmq hb5; have z0 := hmq.frozen 0; have zc0 := hmq.cell 0; have z1 := hmq.frozen 1; have zc1 := hmq.cell 1; have z2 := hmq.frozen 2; have zc2 := hmq.cell 2; have z3 := hmq.frozen 3; have zc3 := hmq.cell 3; have z4 := hmq.frozen 4; have zc4 := hmq.cell 4; have z5 := hmq.frozen 5; have zc5 := hmq.cell 5; have z6 := hmq.frozen 6; have zc6 := hmq.cell 6; have z7 := hmq.frozen 7; have zc7 := hmq.cell 7; have z8 := hmq.frozen 8; have zc8 := hmq.cell 8; have z9 := hmq.frozen 9; have zc9 := hmq.cell 9; simp only [List.getElem?_toArray, List.getElem?_cons_zero, List.getElem?_cons_succ] at zc0 zc1 zc2 zc3 zc4 zc5 zc6 zc7 zc8 zc9) | (with_reducible have hbz : Below ((wq.drew).alloc (.cells #[.int .i64 0, .int .i64 0, .int .i64 0, .int .u64 0, .int .u64 0, .int .u64 0, .int .u64 0, .bool false, .slice none 0 0, .slice none 0 0] 81)).heap.size ((wq.drew).alloc (.cells #[.int .i64 0, .int .i64 0, .int .i64 0, .int .u64 0, .int .u64 0, .int .u64 0, .int .u64 0, .bool false, .slice none 0 0, .slice none 0 0] 81)) w5 := hb5; have hmq : Blk w5 wq.heap.size 81 #[.int .i64 0, .int .i64 0, .int .i64 0, .int .u64 0, .int .u64 0, .int .u64 0, .int .u64 0, .bool false, .slice none 0 0, .slice none 0 0] := Blk.after (Blk.new _ _ _) hbz; have z0 := hmq.frozen 0; have zc0 := hmq.cell 0; have z1 := hmq.frozen 1; have zc1 := hmq.cell 1; have z2 := hmq.frozen 2; have zc2 := hmq.cell 2; have z3 := hmq.frozen 3; have zc3 := hmq.cell 3; have z4 := hmq.frozen 4; have zc4 := hmq.cell 4; have z5 := hmq.frozen 5; have zc5 := hmq.cell 5; have z6 := hmq.frozen 6; have zc6 := hmq.cell 6; have z7 := hmq.frozen 7; have zc7 := hmq.cell 7; have z8 := hmq.frozen 8; have zc8 := hmq.cell 8; have z9 := hmq.frozen 9; have zc9 := hmq.cell 9; simp only [List.getElem?_toArray, List.getElem?_cons_zero, List.getElem?_cons_succ] at zc0 zc1 zc2 zc3 zc4 zc5 zc6 zc7 zc8 zc9) | (with_reducible have hbz : Below ((wq.alloc (.cells #[.int .i64 0, .int .i64 0, .int .i64 0, .int .u64 0, .int .u64 0, .int .u64 0, .int .u64 0, .bool false, .slice none 0 0, .slice none 0 0] 81)).drew).heap.size ((wq.alloc (.cells #[.int .i64 0, .int .i64 0, .int .i64 0, .int .u64 0, .int .u64 0, .int .u64 0, .int .u64 0, .bool false, .slice none 0 0, .slice none 0 0] 81)).drew) w5 := hb5; have hmq : Blk w5 wq.heap.size 81 #[.int .i64 0, .int .i64 0, .int .i64 0, .int .u64 0, .int .u64 0, .int .u64 0, .int .u64 0, .bool false, .slice none 0 0, .slice none 0 0] := Blk.after (Blk.drew (Blk.new _ _ _)) hbz; have z0 := hmq.frozen 0; have zc0 := hmq.cell 0; have z1 := hmq.frozen 1; have zc1 := hmq.cell 1; have z2 := hmq.frozen 2; have zc2 := hmq.cell 2; have z3 := hmq.frozen 3; have zc3 := hmq.cell 3; have z4 := hmq.frozen 4; have zc4 := hmq.cell 4; have z5 := hmq.frozen 5; have zc5 := hmq.cell 5; have z6 := hmq.frozen 6; have zc6 := hmq.cell 6; have z7 := hmq.frozen 7; have zc7 := hmq.cell 7; have z8 := hmq.frozen 8; have zc8 := hmq.cell 8; have z9 := hmq.frozen 9; have zc9 := hmq.cell 9; simp only [List.getElem?_toArray, List.getElem?_cons_zero, List.getElem?_cons_succ] at zc0 zc1 zc2 zc3 zc4 zc5 zc6 zc7 zc8 zc9) | (with_reducible have hbz : Below (w4.alloc (.cells #[.int .i64 0, .int .i64 0, .int .i64 0, .int .u64 0, .int .u64 0, .int .u64 0, .int .u64 0, .bool false, .slice none 0 0, .slice none 0 0] 81)).heap.size (w4.alloc (.cells #[.int .i64 0, .int .i64 0, .int .i64 0, .int .u64 0, .int .u64 0, .int .u64 0, .int .u64 0, .bool false, .slice none 0 0, .slice none 0 0] 81)) w5 := hb5; have hmq : Blk w5 w4.heap.size 81 #[.int .i64 0, .int .i64 0, .int .i64 0, .int .u64 0, .int .u64 0, .int .u64 0, .int .u64 0, .bool false, .slice none 0 0, .slice none 0 0] := Blk.after (Blk.new _ _ _) hbz; have z0 := hmq.frozen 0; have zc0 := hmq.cell 0; have z1 := hmq.frozen 1; have zc1 := hmq.cell 1; have z2 := hmq.frozen 2; have zc2 := hmq.cell 2; have z3 := hmq.frozen 3; have zc3 := hmq.cell 3; have z4 := hmq.frozen 4; have zc4 := hmq.cell 4; have z5 := hmq.frozen 5; have zc5 := hmq.cell 5; have z6 := hmq.frozen 6; have zc6 := hmq.cell 6; have z7 := hmq.frozen 7; have zc7 := hmq.cell 7; have z8 := hmq.frozen 8; have zc8 := hmq.cell 8; have z9 := hmq.frozen 9; have zc9 := hmq.cell 9; simp only [List.getElem?_toArray, List.getElem?_cons_zero, List.getElem?_cons_succ] at zc0 zc1 zc2 zc3 zc4 zc5 zc6 zc7 zc8 zc9) | skip))
      all_goals
        go_wp2
        go_meet
        first
          | (with_reducible exact ⟨_, rfl, Blk.new _ _ _, ha5.size, Aft.alloc ha5 _⟩)
          | (refine ⟨_, rfl, by simpa using ((((((((((hmq.set_ 0 (.int .i64 3)).set_ 1 (.int .i64 0)).set_ 2 (.int .i64 0)).set_ 3 (.int .u64 ((x.term : Int) + 1))).set_ 4 (.int .u64 (x.last : Int))).set_ 5 (.int .u64 (x.lastT : Int))).set_ 6 (.int .u64 0)).set_ 7 (.bool false)).set_ 8 (.slice none 0 0)).set_ 9 (.slice none 0 0)), by first | exact ha4.size | exact hw0, ?_⟩; with_reducible ((repeat refine Aft.set ?_ (by first | exact hw0 | exact ha4.size) _ _); exact ha5))
    case rest =>
      obtain ⟨g, rfl, hmb, hgw, haf⟩ := hcut
      have HMB := Lib.hid hmb
      have HAF := Lib.hid haf
      have hB := HH.out.blk.after haf
      have y0 : wc.cell? ⟨b, 0, none⟩ = some (.int .i64 x.me) := hB.cell 0
      have y1 : wc.cell? ⟨b, 1, none⟩ = some (.int .i64 x.vote) := hB.cell 1
      have y2 : wc.cell? ⟨b, 2, none⟩ = some (.int .i64 x.role) := hB.cell 2
      have y3 : wc.cell? ⟨b, 3, none⟩ = some (.int .i64 x.lead) := hB.cell 3
      have y5 : wc.cell? ⟨b, 5, none⟩ = some yv := hB.cell 5
      have y6 : wc.cell? ⟨b, 6, none⟩ = some (.int .u64 (x.term : Int)) := hB.cell 6
      have f1 := hB.frozen 1
      have f2 := hB.frozen 2
      have f3 := hB.frozen 3
      have f5 := hB.frozen 5
      have f6 := hB.frozen 6
      have m0 := hmb.cell 0
      have g0 := hmb.frozen 0
      have hbg : b ≠ g := fun e => hB.ne hmb (by decide) e
      have hgb : g ≠ b := fun e => hbg e.symm
      simp only [List.getElem?_toArray, List.getElem?_cons_zero, List.getElem?_cons_succ] at m0
      clear hmb haf x0 x4 x6 x8 x9 x10 HK HT HL
      go_wp2
      have hb4 := hB.set_ 2 (.int .i64 1)
      have hg4 := only_setCell (grown_of_below HAF.out (some b)) 2 (.int .i64 1)
      have hm4 := HMB.out.far (p := ⟨b, 2, none⟩) hgb (.int .i64 1)
      generalize hwd : wc.setCell ⟨b, 2, none⟩ (.int .i64 1) = wd at hb4 hg4 hm4 ⊢
      have z0 : wd.cell? ⟨b, 0, none⟩ = some (.int .i64 x.me) := hb4.cell 0
      have z1 : wd.cell? ⟨b, 1, none⟩ = some (.int .i64 x.vote) := hb4.cell 1
      have z2 : wd.cell? ⟨b, 2, none⟩ = some (.int .i64 1) := hb4.cell 2
      have z3 : wd.cell? ⟨b, 3, none⟩ = some (.int .i64 x.lead) := hb4.cell 3
      have z5 : wd.cell? ⟨b, 5, none⟩ = some yv := hb4.cell 5
      have z6 : wd.cell? ⟨b, 6, none⟩ = some (.int .u64 (x.term : Int)) := hb4.cell 6
      have f1 := hb4.frozen 1
      have f2 := hb4.frozen 2
      have f3 := hb4.frozen 3
      have f5 := hb4.frozen 5
      have f6 := hb4.frozen 6
      have m0 := hm4.cell 0
      have g0 := hm4.frozen 0
      simp only [List.getElem?_toArray, List.getElem?_cons_zero, List.getElem?_cons_succ] at m0
      have HB4 := Lib.hid hb4
      have HG4 := Lib.hid hg4
      have HM4 := Lib.hid hm4
      clear hwd hb4 hg4 hm4 hB y0 y1 y2 y3 y5 y6
      go_cut [0] (fun v we => v = .pointer (some ⟨b, 0, none⟩) ∧ Blk we b 75 (NP.cells ⟨cA, cc, yv, eA, ec, er, nv, mv⟩ { x with term := x.term + 1, vote := x.me, role := 2 }) ∧ w.grownBy we (some b) ∧ Blk we g 81 #[.int .i64 3, .int .i64 0, .int .i64 0, .int .u64 ((x.term : Int) + 1), .int .u64 (x.last : Int), .int .u64 (x.lastT : Int), .int .u64 0, .bool false, .slice none 0 0, .slice none 0 0])
      case first =>
        go_region_law (fail)
        all_goals
          go_wp2
          go_meet
          refine ⟨rfl, by simpa [NP.cells] using (((HB4.out.set_ 6 (.int .u64 ((x.term : Int) + 1))).set_ 1 (.int .i64 x.me)).set_ 2 (.int .i64 2)).drew, grown_drew (only_setCell (only_setCell (only_setCell HG4.out 6 (.int .u64 ((x.term : Int) + 1))) 1 (.int .i64 x.me)) 2 (.int .i64 2)), (((HM4.out.far (p := ⟨b, 6, none⟩) hgb (.int .u64 ((x.term : Int) + 1))).far (p := ⟨b, 1, none⟩) hgb (.int .i64 x.me)).far (p := ⟨b, 2, none⟩) hgb (.int .i64 2)).drew⟩
      case rest =>
        obtain ⟨rfl, hbe, hge, hme⟩ := hcut
        have z0 : wc.cell? ⟨b, 0, none⟩ = some (.int .i64 x.me) := hbe.cell 0
        have z3 : wc.cell? ⟨b, 3, none⟩ = some (.int .i64 x.lead) := hbe.cell 3
        have z5 : wc.cell? ⟨b, 5, none⟩ = some yv := hbe.cell 5
        have f3 := hbe.frozen 3
        have f5 := hbe.frozen 5
        have m0 := hme.cell 0
        have g0 := hme.frozen 0
        simp only [List.getElem?_toArray, List.getElem?_cons_zero] at m0
        have HBE := Lib.hid hbe
        have HGE := Lib.hid hge
        have HME := Lib.hid hme
        have hbl := hbe.lt
        clear hbe hge hme HB4 HG4 HM4
        go_wp2
        have hk := HH.out.asked (y := { x with term := x.term + 1, vote := x.me, role := 2 }) (grown_set_new HGE.out hgw 0 (.int .i64 1)) (HBE.out.far (p := ⟨g, 0, none⟩) hbg (.int .i64 1)) rfl rfl rfl rfl rfl
        have hmf := (((HME.out.set_ 0 (.int .i64 1)).far (p := ⟨b, 3, none⟩) hgb (.int .i64 (-1))).far (p := ⟨b, 5, none⟩) hgb (.slice (some ⟨wc.heap.size, 0, none⟩) 1 1)).alloc (.cells #[.int .i64 x.me] 3)
        simp only [size_setCell'] at hk
        have hwsz : w.heap.size ≤ wc.heap.size := HGE.out.size
        generalize hwf : (((wc.setCell ⟨g, 0, none⟩ (.int .i64 1)).setCell ⟨b, 3, none⟩ (.int .i64 (-1))).setCell ⟨b, 5, none⟩ (.slice (some ⟨wc.heap.size, 0, none⟩) 1 1)).alloc (.cells #[.int .i64 x.me] 3) = wf at hk hmf ⊢
        obtain ⟨hN, hgf⟩ := hk
        have hNb := hN.blk
        have c4 : wf.cell? ⟨b, 4, none⟩ = some (.slice cA x.conf.length cc) := hNb.cell 4
        have c5 : wf.cell? ⟨b, 5, none⟩ = some (.slice (some ⟨wc.heap.size, 0, none⟩) 1 1) := hNb.cell 5
        obtain ⟨Ay, cy, hvy, hsy⟩ := own_sl hN.yes
        injection hvy with e1 e2 e3
        clear e2
        subst e1 e3
        obtain ⟨Ac, cc', hvc, hsc⟩ := own_sl hN.conf
        injection hvc with e1 e2 e3
        clear e2
        subst e1 e3
        have HSY := Lib.hid hsy
        have HSC2 := Lib.hid hsc
        have HN := Lib.hid hN
        have hCF : Chg O w wf := Chg.grown hgf fun k e => by cases e; exact .inl HH.out.bO
        have hSF : Sub O w (fun k => O k ∨ k = wc.heap.size) := fun k hk => hk.elim .inl fun e => .inr (by omega)
        have HCF := Lib.hid hCF
        have HSF := Lib.hid hSF
        have HMF := Lib.hid hmf
        clear hwf hN hgf hNb hsy hsc hCF hSF hmf z0 z3 z5 f3 f5 g0 m0 HBE HGE HME
        cases hag : agrees x.conf [x.me] with
        | true =>
          have HAG := Lib.hid hag
          clear hag
          go_quiet ((go_at_call 62; exact Calls.quiet_of (agrees_quiet (HSC2.out.drewN _) (HSY.out.drewN _) HOK.out.conf HAG.out)))
          go_wp2_with fail
          refine (chosen_real _ (HN.out.drewN _) HOK.out.base HOK.out.es HOK.out.me0 HOK.out.me16 rfl).mono ?_
          rintro e w5 ⟨v, rfl, hsent⟩
          have hsent2 := Sent.behind (HCF.out.drewN _) HSF.out hsent
          go_wp2
          go_ret
          have he : x.askReal = (x.reals.toLead, []) := by unfold ND.askReal; rw [HIN.out, HAG.out]; rfl
          rw [he]
          exact ⟨_, rfl, hsent2⟩
        | false =>
          have HAG := Lib.hid hag
          clear hag
          go_quiet ((go_at_call 62; exact Calls.quiet_of (agrees_quiet (HSC2.out.drewN _) (HSY.out.drewN _) HOK.out.conf HAG.out)))
          have hT := toAll_any 1 0 0 (x.term + 1) x.last x.lastT (wf.drewN nq) (HN.out.drewN _) HOK.out.conf
          rw [show ((x.term + 1 : Nat) : Int) = (x.term : Int) + 1 from by omega] at hT
          have hmg : Blk wf g 81 #[.int .i64 1, .int .i64 0, .int .i64 0, .int .u64 ((x.term : Int) + 1), .int .u64 (x.last : Int), .int .u64 (x.lastT : Int), .int .u64 0, .bool false, .slice none 0 0, .slice none 0 0] := by simpa using HMF.out
          have m0 := hmg.cell 0
          have m1 := hmg.cell 1
          have m2 := hmg.cell 2
          have m3 := hmg.cell 3
          have m4 := hmg.cell 4
          have m5 := hmg.cell 5
          have m6 := hmg.cell 6
          have m7 := hmg.cell 7
          have m8 := hmg.cell 8
          have m9 := hmg.cell 9
          simp only [List.getElem?_toArray, List.getElem?_cons_zero, List.getElem?_cons_succ] at m0 m1 m2 m3 m4 m5 m6 m7 m8 m9
          have HT2 := Lib.hid hT
          clear hT hmg
          go_wp2_with fail
          refine HT2.out.mono ?_
          rintro e w5 ⟨v, rfl, hrow, hb5⟩
          have hsent2 := Sent.behind (HCF.out.drewN _) HSF.out (Sent.rows (HN.out.drewN _) hb5 hrow)
          go_wp2
          go_ret
          have he : x.askReal = (x.reals, x.toAll 1 (x.term + 1) x.last x.lastT) := by unfold ND.askReal; rw [HIN.out, HAG.out]; rfl
          rw [he]
          exact ⟨_, rfl, hsent2⟩
end
end Go.Proofs.Ytbgdepaffgeinaa
