/- Clocks in memory. -/
import Derived.Test.YtcocakbopbehjaaClkKit
import Derived.Test.YtcocakbopbehjaaPClock
namespace Go.Proofs.Ytcocakbopbehjaa
open Go.RowKit
def tcells : List Tm → List Value
  | [] => []
  | t :: ts => .int .i64 t.1 :: .int .u64 (t.2 : Int) :: tcells ts
def tmv (t : Tm) : Value := .agg #[.int .i64 t.1, .int .u64 (t.2 : Int)]
theorem tcells_len (ts : List Tm) : (tcells ts).length = ts.length * 2 := by
  induction ts with
  | nil => rfl
  | cons e es ih => simp only [tcells, List.length_cons, ih]; omega
theorem tcells_append (es fs : List Tm) : tcells (es ++ fs) = tcells es ++ tcells fs := by
  induction es with
  | nil => rfl
  | cons e es ih => simp only [tcells, List.cons_append, ih]
theorem tcells_drop (es : List Tm) (k : Nat) : tcells (es.drop k) = (tcells es).drop (k * 2) := by
  induction k generalizing es with
  | zero => simp
  | succ k ih =>
    cases es with
    | nil => simp [tcells]
    | cons e es =>
      rw [Nat.succ_mul]
      simp only [tcells, List.drop_succ_cons]
      exact ih es
theorem tcells_take (es : List Tm) (k : Nat) : tcells (es.take k) = (tcells es).take (k * 2) := by
  induction k generalizing es with
  | zero => simp [tcells]
  | succ k ih =>
    cases es with
    | nil => simp [tcells]
    | cons e es =>
      rw [Nat.succ_mul]
      simp only [tcells, List.take_succ_cons]
      rw [ih es]
theorem tcells_at (es : List Tm) (k : Nat) (e : Tm) (h : es[k]? = some e) : (tcells es)[k * 2]? = some (.int .i64 e.1) ∧ (tcells es)[k * 2 + 1]? = some (.int .u64 (e.2 : Int)) := by
  induction k generalizing es with
  | zero =>
    cases es with
    | nil => simp at h
    | cons x es =>
      simp at h
      subst h
      exact ⟨rfl, rfl⟩
  | succ k ih =>
    cases es with
    | nil => simp at h
    | cons x es =>
      have := ih es (by simpa using h)
      rw [Nat.succ_mul]
      simpa only [tcells, List.getElem?_cons_succ] using this
theorem tcells_one (es : List Tm) : ∀ u ∈ tcells es, u.oneCell' = true := by
  induction es with
  | nil => intro u hu; cases hu
  | cons e es ih =>
    intro u hu
    simp only [tcells, List.mem_cons] at hu
    rcases hu with rfl | rfl | hu
    · rfl
    · rfl
    · exact ih u hu
theorem tcells_set (es : List Tm) (k : Nat) (e : Tm) (h : k < es.length) : tcells (es.set k e) = (tcells es).take (k * 2) ++ [.int .i64 e.1, .int .u64 (e.2 : Int)] ++ (tcells es).drop (k * 2 + 2) := by
  rw [List.set_eq_take_append_cons_drop, if_pos h, tcells_append]
  simp only [tcells]
  rw [tcells_take, tcells_drop, show (k + 1) * 2 = k * 2 + 2 by omega]
  simp
section
variable {w w' : World} {lo hi n c k : Nat} {A : Option Addr} {es : List Tm}
/-- an element's two cells -/
theorem Sl.tm (h : Sl w lo hi 2 A n c (tcells es)) (hk : k < n) :
    ∃ ad e, A = some ad ∧ es[k]? = some e ∧ w.cell? (ad.add (k * 2)) = some (.int .i64 e.1) ∧ w.cell? ⟨(ad.add (k * 2)).block, (ad.add (k * 2)).off + 1, none⟩ = some (.int .u64 (e.2 : Int)) := by
  obtain ⟨ad, e, _, _, hc⟩ := h.at_ (by omega)
  have hl : k < es.length := by have := h.len; rw [tcells_len] at this; omega
  obtain ⟨h0, h1⟩ := tcells_at es k es[k] (List.getElem?_eq_getElem hl)
  have a0 := hc _ _ h0
  refine ⟨ad, es[k], e, List.getElem?_eq_getElem hl, a0, ?_⟩
  rw [← add_off a0, add_of_add]; exact hc _ _ h1
end
structure NB where
  b : Nat
  v : Value
  p : PN
def NB.ptr (x : NB) : Value := .pointer (some ⟨x.b, 0, none⟩)
structure PN.Ok (p : PN) : Prop where
  now : p.now < 18446744073709551616
  len : p.ts.length ≤ 40
  ts : ∀ t ∈ p.ts, t.2 < 18446744073709551616
structure NodeAt (w : World) (x : NB) : Prop where
  blk : Blk w x.b 58 #[.int .u64 (x.p.now : Int), x.v, .bool x.p.paused]
  row : w.ownsRow 0 62 2 x.v x.p.ts.length (tcells x.p.ts)
  ok : x.p.Ok
structure ClkAt (H : Nat) (w : World) (O : Nat → Prop) (g : Nat) (ns : List PN) : Prop where
  low : ∀ k, O k → H ≤ k
  top : ∀ k, O k → k < w.heap.size
  gO : O g
  st : ∃ (v : Value) (xs : List NB), Blk w g 54 #[v] ∧ w.ownsRow 0 55 1 v ns.length (xs.map NB.ptr) ∧ (∀ b, v.ownBlock = some b → O b) ∧ xs.map NB.p = ns ∧
    (∀ x ∈ xs, NodeAt w x ∧ O x.b ∧ ∀ b, x.v.ownBlock = some b → O b) ∧ xs.Pairwise fun x y => x.b ≠ y.b ∧ ∀ b, x.v.ownBlock = some b → y.v.ownBlock ≠ some b
section
variable {H : Nat} {w w1 : World} {O O' : Nat → Prop} {g : Nat} {ns : List PN}
theorem NodeAt.keep {x : NB} (h : NodeAt w x) (hb : w1.heap[x.b]? = w.heap[x.b]?) (hv : ∀ b, x.v.ownBlock = some b → w1.heap[b]? = w.heap[b]?) : NodeAt w1 x := ⟨hb.trans h.blk, own_same h.row hv, h.ok⟩
theorem ClkAt.keep (h : ClkAt H w O g ns) (hO : ∀ b, O b → w1.heap[b]? = w.heap[b]?) (hs : w.heap.size ≤ w1.heap.size) : ClkAt H w1 O g ns := by
  obtain ⟨h1, h2, h3, v, xs, h4, h5, h6, h7, h8, h9⟩ := h
  exact ⟨h1, fun k hk => Nat.lt_of_lt_of_le (h2 k hk) hs, h3, v, xs, (hO g h3).trans h4, own_same h5 fun b hb => hO b (h6 b hb), h6, h7, fun x hx => ⟨(h8 x hx).1.keep (hO _ (h8 x hx).2.1) fun b hb => hO b ((h8 x hx).2.2 b hb), (h8 x hx).2⟩, h9⟩
theorem ClkAt.after (h : ClkAt H w O g ns) (hb : Below w.heap.size w w1) : ClkAt H w1 O g ns := h.keep (fun b hO => hb.block b (h.top b hO)) hb.size
theorem ClkAt.alloc (h : ClkAt H w O g ns) (o : Obj) : ClkAt H (w.alloc o) O g ns := h.keep (fun b hO => Below.heap_alloc w o b (h.top b hO)) (by simp)
theorem ClkAt.drewN (h : ClkAt H w O g ns) (q : Nat) : ClkAt H (w.drewN q) O g ns := h.keep (fun _ _ => rfl) (Nat.le_refl _)
theorem ClkAt.other (h : ClkAt H w O g ns) (hc : Chg O' w w1) (hd : ∀ k, O k → ¬ O' k) : ClkAt H w1 O g ns := h.keep (fun b hO => hc.block b (h.top b hO) (hd b hO)) hc.size
theorem ClkAt.apart {O2 : Nat → Prop} (h : ClkAt H w O g ns) (hd : ∀ k, O k → ¬ O' k) (hs : Sub O' w O2) : ∀ k, O k → ¬ O2 k := fun k hk hk' => by
  rcases hs k hk' with h1 | h1
  · exact hd k hk h1
  · have := h.top k hk; omega
/-- one node turns: its own block, its row, or another row behind -/
theorem ClkAt.turn {v : Value} {xs : List NB} {i : Nat} {x : NB} (h : ClkAt H w O g ns)
    (hg : Blk w g 54 #[v]) (hr : w.ownsRow 0 55 1 v ns.length (xs.map NB.ptr)) (hrO : ∀ b, v.ownBlock = some b → O b) (hns : xs.map NB.p = ns) (hx : ∀ x ∈ xs, NodeAt w x ∧ O x.b ∧ ∀ b, x.v.ownBlock = some b → O b) (hp : xs.Pairwise fun x y => x.b ≠ y.b ∧ ∀ b, x.v.ownBlock = some b → y.v.ownBlock ≠ some b)
    (hi : xs[i]? = some x) (hc : Chg (fun k => k = x.b ∨ x.v.ownBlock = some k) w w1) {v' : Value} {p' : PN} (hN : NodeAt w1 ⟨x.b, v', p'⟩) (hv' : v'.ownBlock = x.v.ownBlock ∨ ∀ b, v'.ownBlock = some b → w.heap.size ≤ b) :
    ∃ O', ClkAt H w1 O' g (ns.set i p') ∧ Sub O w O' ∧ Chg O w w1 := by
  have hxm := List.mem_of_getElem? hi
  obtain ⟨hxN, hxb, hxv⟩ := hx x hxm
  have hil : i < xs.length := (List.getElem?_eq_some_iff.1 hi).1
  have hnl : xs.length = ns.length := by rw [← hns]; simp
  have hH : H ≤ w.heap.size := Nat.le_of_lt (Nat.lt_of_le_of_lt (h.low g h.gO) (h.top g h.gO))
  have hcO : Chg O w w1 := hc.mono fun k hk => by
    rcases hk with rfl | hk
    · exact hxb
    · exact hxv k hk
  have hgx : g ≠ x.b := hg.ne hxN.blk (by decide)
  have hgv : x.v.ownBlock ≠ some g := row_ne hxN.row hg (by decide)
  have hrb : v.ownBlock ≠ some x.b := row_ne hr hxN.blk (by decide)
  have hrv := row_ne_row hr hxN.row (by decide)
  have hoth : ∀ (j : Nat) (y : NB), j ≠ i → xs[j]? = some y → y.b ≠ x.b ∧ ∀ b, y.v.ownBlock = some b → x.v.ownBlock ≠ some b := fun j y hj hy => by
    obtain ⟨hjl, hje⟩ := List.getElem?_eq_some_iff.1 hy
    obtain ⟨_, hie⟩ := List.getElem?_eq_some_iff.1 hi
    have hpw := List.pairwise_iff_getElem.1 hp
    rcases Nat.lt_or_gt_of_ne hj with hlt | hgt
    · have := hpw j i hjl hil hlt
      rw [hje, hie] at this
      exact this
    · have := hpw i j hil hjl hgt
      rw [hje, hie] at this
      exact ⟨fun e => this.1 e.symm, fun b hb hb' => this.2 b hb' hb⟩
  have hyb : ∀ y ∈ xs, y.b ≠ x.b → y.v.ownBlock ≠ some x.b := fun y hy hne => row_ne (hx y hy).1.row hxN.blk (by decide)
  have hyx : ∀ y ∈ xs, x.v.ownBlock ≠ some y.b := fun y hy => row_ne hxN.row (hx y hy).1.blk (by decide)
  refine ⟨fun k => O k ∨ v'.ownBlock = some k, ⟨?_, ?_, .inl h.gO, v, xs.set i ⟨x.b, v', p'⟩, ?_, ?_, fun b hb => .inl (hrO b hb), ?_, ?_, ?_⟩, ?_, hcO⟩
  · intro k hk
    rcases hk with hk | hk
    · exact h.low k hk
    · rcases hv' with e | e
      · exact h.low k (hxv k (e ▸ hk))
      · have := e k hk; omega
  · intro k hk
    rcases hk with hk | hk
    · exact Nat.lt_of_lt_of_le (h.top k hk) hc.size
    · exact (hN.row.lt k hk).2
  · exact hg.chg hc fun e => by
      rcases e with e | e
      · exact hgx e
      · exact hgv e
  · have e1 : (xs.set i ⟨x.b, v', p'⟩).map NB.ptr = xs.map NB.ptr := by
      apply List.ext_getElem?
      intro j
      rw [List.getElem?_map, List.getElem?_map, List.getElem?_set]
      split
      · next hj =>
        subst hj
        try rw [if_pos hil]
        rw [hi]
        rfl
      · rfl
    rw [e1, List.length_set]
    exact own_chg hr hc fun b hb e => by
      rcases e with e | e
      · exact hrb (e ▸ hb)
      · exact hrv b hb e
  · rw [List.map_set, hns]
  · intro y hy
    obtain ⟨j, hj⟩ := List.getElem?_of_mem hy
    rw [List.getElem?_set] at hj
    split at hj
    · next hij =>
      subst hij
      try rw [if_pos hil] at hj
      injection hj with hj
      subst hj
      exact ⟨hN, .inl hxb, fun b hb => .inr hb⟩
    · next hij =>
      have hym := List.mem_of_getElem? hj
      obtain ⟨k1, k2⟩ := hoth j y (fun e => hij e.symm) hj
      obtain ⟨n1, n2, n3⟩ := hx y hym
      refine ⟨n1.keep (hc.block _ n1.blk.lt ?_) fun b hb => hc.block b (n1.row.lt b hb).2 ?_, .inl n2, fun b hb => .inl (n3 b hb)⟩
      · rintro (e | e)
        · exact k1 e
        · exact hyx y hym e
      · rintro (e | e)
        · exact hyb y hym k1 (e ▸ hb)
        · exact k2 b hb e
  · rw [List.pairwise_iff_getElem]
    intro j k hj hk hjk
    rw [List.length_set] at hj hk
    rw [List.getElem_set, List.getElem_set]
    have hpw := List.pairwise_iff_getElem.1 hp j k hj hk hjk
    have hnew : ∀ y ∈ xs, ∀ b, v'.ownBlock = some b → (x.v.ownBlock = some b → y.v.ownBlock ≠ some b) → y.v.ownBlock ≠ some b := fun y hy b hb h1 h2 => by
      rcases hv' with e | e
      · exact h1 (e ▸ hb) h2
      · have := e b hb
        have := ((hx y hy).1.row.lt b h2).2
        omega
    split
    · next hij =>
      subst hij
      have hne : ¬ i = k := by omega
      rw [if_neg hne]
      have hxi : xs[i] = x := (List.getElem?_eq_some_iff.1 hi).2
      rw [hxi] at hpw
      exact ⟨hpw.1, fun b hb => hnew _ (List.getElem_mem hk) b hb (hpw.2 b)⟩
    · split
      · next hik =>
        subst hik
        have hxi : xs[i] = x := (List.getElem?_eq_some_iff.1 hi).2
        rw [hxi] at hpw
        exact ⟨hpw.1, fun b hb hb' => hnew _ (List.getElem_mem hj) b hb' (fun h1 h2 => hpw.2 b h2 h1) hb⟩
      · exact hpw
  · intro k hk
    rcases hk with hk | hk
    · exact .inl hk
    · rcases hv' with e | e
      · exact .inl (hxv k (e ▸ hk))
      · exact .inr (e k hk)
end
end Go.Proofs.Ytcocakbopbehjaa
