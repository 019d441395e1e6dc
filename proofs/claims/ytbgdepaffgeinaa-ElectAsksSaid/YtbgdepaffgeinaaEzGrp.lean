import Derived.Test.YtbgdepaffgeinaaElLog
import Derived.Test.YtbgdepaffgeinaaEzPlain
/- A group of nodes that ask, in memory. -/
namespace Go.Proofs.Ytbgdepaffgeinaa
open Go.RowKit
/-- one node of the group: its block, its parts, its blocks, what it is -/
structure GN where
  b : Nat
  p : NP
  O : Nat → Prop
  x : ND
def GN.ptr (y : GN) : Value := .pointer (some ⟨y.b, 0, none⟩)
structure GR where
  nv : Value
  mv : Value
  tv : Value
  lv : Value
def GR.cells (r : GR) : Array Value := #[r.nv, r.mv, r.tv, r.lv]
/-- the group's own blocks: it, its four rows -/
def GR.W (r : GR) (g : Nat) : Nat → Prop := fun k => k = g ∨ r.nv.ownBlock = some k ∨ r.mv.ownBlock = some k ∨ r.tv.ownBlock = some k ∨ r.lv.ownBlock = some k
structure GrpP (H : Nat) (w : World) (g : Nat) (r : GR) (xs : List GN) (G : GP) : Prop where
  blk : Blk w g 73 r.cells
  nodes : w.ownsRow H 52 1 r.nv xs.length (xs.map GN.ptr)
  msgs : w.ownsRow H 81 10 r.mv G.msgs.length (mcells G.msgs)
  terms : w.ownsRow H 22 1 r.tv G.terms.length (G.terms.map uv)
  leads : w.ownsRow H 3 1 r.lv G.leads.length (G.leads.map iv)
  hg : H ≤ g
  is : xs.map GN.x = G.nodes
  node : ∀ y ∈ xs, NodeP H w y.O y.b y.p y.x
  off : ∀ y ∈ xs, ∀ k, y.O k → ¬ r.W g k
  apart : xs.Pairwise fun a b => ∀ k, a.O k → ¬ b.O k
section
variable {H : Nat} {w w1 : World} {g : Nat} {r : GR} {xs : List GN} {G : GP}
theorem GrpP.W_lt (h : GrpP H w g r xs G) : ∀ k, r.W g k → k < w.heap.size := by
  rintro k (rfl | hk | hk | hk | hk)
  · exact h.blk.lt
  · exact (h.nodes.lt k hk).2
  · exact (h.msgs.lt k hk).2
  · exact (h.terms.lt k hk).2
  · exact (h.leads.lt k hk).2
theorem GrpP.after (h : GrpP H w g r xs G) (hb : Below w.heap.size w w1) : GrpP H w1 g r xs G :=
  ⟨h.blk.after hb, own_after h.nodes hb, own_after h.msgs hb, own_after h.terms hb, own_after h.leads hb, h.hg, h.is, fun y hy => (h.node y hy).after hb, h.off, h.apart⟩
/-- one node turns -/
theorem GrpP.turn (h : GrpP H w g r xs G) {i : Nat} {y : GN} (hi : xs[i]? = some y) {p' : NP} {O' : Nat → Prop} {x' : ND} (hN : NodeP H w1 O' y.b p' x') (hs : Sub y.O w O') (hc : Chg y.O w w1) :
    GrpP H w1 g r (xs.set i ⟨y.b, p', O', x'⟩) { G with nodes := G.nodes.set i x' } := by
  have hym := List.mem_of_getElem? hi
  have hil := (List.getElem?_eq_some_iff.1 hi).1
  have hoff := h.off y hym
  have hoth : ∀ (j : Nat) (z : GN), j ≠ i → xs[j]? = some z → ∀ k, z.O k → ¬ y.O k := fun j z hj hz => by
    obtain ⟨hjl, hje⟩ := List.getElem?_eq_some_iff.1 hz
    obtain ⟨_, hie⟩ := List.getElem?_eq_some_iff.1 hi
    have hpw := List.pairwise_iff_getElem.1 h.apart
    rcases Nat.lt_or_gt_of_ne hj with hlt | hgt
    · have := hpw j i hjl hil hlt
      rw [hje, hie] at this
      exact this
    · have := hpw i j hil hjl hgt
      rw [hje, hie] at this
      exact fun k hk hk' => this k hk' hk
  have hlowO : ∀ k, y.O k → H ≤ k := (h.node y hym).low
  have rows : ∀ {size n : Nat} {e : TypeId} {v : Value} {zs : List Value}, w.ownsRow H e size v n zs → (∀ k, v.ownBlock = some k → r.W g k) → w1.ownsRow H e size v n zs := fun hr hv => own_chg hr hc fun k hk hO => hoff k hO (hv k hk)
  have hset : ∀ (j : Nat) (z : GN), (xs.set i ⟨y.b, p', O', x'⟩)[j]? = some z → (j = i ∧ z = ⟨y.b, p', O', x'⟩) ∨ (j ≠ i ∧ xs[j]? = some z) := fun j z hz => by
    rw [List.getElem?_set] at hz
    split at hz
    · next e =>
      subst e
      try rw [if_pos hil] at hz
      injection hz with hz
      exact .inl ⟨rfl, hz.symm⟩
    · next e => exact .inr ⟨fun e' => e e'.symm, hz⟩
  refine ⟨h.blk.chg hc fun hO => hoff g hO (.inl rfl), ?_, rows h.msgs fun k hk => .inr (.inr (.inl hk)), rows h.terms fun k hk => .inr (.inr (.inr (.inl hk))), rows h.leads fun k hk => .inr (.inr (.inr (.inr hk))), h.hg, ?_, ?_, ?_, ?_⟩
  · have e1 : (xs.set i ⟨y.b, p', O', x'⟩).map GN.ptr = xs.map GN.ptr := by
      rw [List.map_set]
      have : GN.ptr ⟨y.b, p', O', x'⟩ = y.ptr := rfl
      rw [this]
      apply List.ext_getElem?
      intro j
      rw [List.getElem?_set]
      split
      · next e =>
        subst e
        rw [List.getElem?_map, hi]
        simp [hil]
      · rfl
    rw [e1, List.length_set]
    exact rows h.nodes fun k hk => .inr (.inl hk)
  · show (xs.set i ⟨y.b, p', O', x'⟩).map GN.x = G.nodes.set i x'
    rw [List.map_set, h.is]
  · intro z hz
    obtain ⟨j, hj⟩ := List.getElem?_of_mem hz
    rcases hset j z hj with ⟨_, rfl⟩ | ⟨hne, hj⟩
    · exact hN
    · exact (h.node z (List.mem_of_getElem? hj)).other hc (hoth j z hne hj) hlowO
  · intro z hz k hk hw
    obtain ⟨j, hj⟩ := List.getElem?_of_mem hz
    rcases hset j z hj with ⟨_, rfl⟩ | ⟨hne, hj⟩
    · rcases hs k hk with h1 | h1
      · exact hoff k h1 hw
      · have := h.W_lt k hw; omega
    · exact h.off z (List.mem_of_getElem? hj) k hk hw
  · rw [List.pairwise_iff_getElem]
    intro j k hj hk hjk a ha hb
    have hj' := hset j _ (List.getElem?_eq_getElem hj)
    have hk' := hset k _ (List.getElem?_eq_getElem hk)
    have fresh : ∀ (q : Nat) (z : GN), q ≠ i → xs[q]? = some z → ∀ a, O' a → z.O a → False := fun q z hq hz a h1 h2 => by
      rcases hs a h1 with h3 | h3
      · exact hoth q z hq hz a h2 h3
      · have := (h.node z (List.mem_of_getElem? hz)).top a h2; omega
    rcases hj' with ⟨e1, e2⟩ | ⟨e1, e2⟩
    · rcases hk' with ⟨e3, e4⟩ | ⟨e3, e4⟩
      · omega
      · rw [e2] at ha
        exact fresh k _ e3 e4 a ha hb
    · rcases hk' with ⟨e3, e4⟩ | ⟨e3, e4⟩
      · rw [e4] at hb
        exact fresh j _ e1 e2 a hb ha
      · have hpw := List.pairwise_iff_getElem.1 h.apart
        obtain ⟨l1, q1⟩ := List.getElem?_eq_some_iff.1 e2
        obtain ⟨l2, q2⟩ := List.getElem?_eq_some_iff.1 e4
        have := hpw j k l1 l2 hjk
        rw [q1, q2] at this
        exact this a ha hb
end
end Go.Proofs.Ytbgdepaffgeinaa

/- A group's rows grow. -/
namespace Go.Proofs.Ytbgdepaffgeinaa
open Go.RowKit
section
variable {H : Nat} {w wq w4 : World} {g : Nat} {r : GR} {xs : List GN} {G : GP}
theorem GrpP.msgs_ (h : GrpP H w g r xs G) {v4 : Value} {ms : List Ms} (hq : Below w.heap.size w wq) (hown : w4.ownsRow H 81 10 v4 (G.msgs ++ ms).length (mcells (G.msgs ++ ms))) (hg4 : wq.grownBy w4 r.mv.ownBlock) (hat : v4.ownBlock = r.mv.ownBlock ∨ ∀ k, v4.ownBlock = some k → w.heap.size ≤ k) :
    GrpP H (w4.setCell ⟨g, 1, none⟩ v4) g { r with mv := v4 } xs { G with msgs := G.msgs ++ ms } ∧ Chg (fun k => k = g ∨ r.mv.ownBlock = some k) w (w4.setCell ⟨g, 1, none⟩ v4) := by
  have hc : Chg (fun k => k = g ∨ r.mv.ownBlock = some k) w (w4.setCell ⟨g, 1, none⟩ v4) := ((Chg.below hq).same (Chg.grown hg4 fun k e => .inl (.inr e))).put (.inl rfl) 1 v4
  have hrg : r.mv.ownBlock ≠ some g := row_ne h.msgs h.blk (by decide)
  have hb4 := (h.blk.after hq).grown hg4 fun e => hrg e.symm
  have hvg : v4.ownBlock ≠ some g := row_ne hown hb4 (by decide)
  have hW : ∀ k, (k = g ∨ r.mv.ownBlock = some k) → r.W g k := fun k hk => hk.elim .inl fun e => .inr (.inr (.inl e))
  have hH : ∀ k, (k = g ∨ r.mv.ownBlock = some k) → H ≤ k := fun k hk => hk.elim (fun e => by rw [e]; exact h.hg) fun e => (h.msgs.lt k e).1
  have r_nodes : ∀ k, r.nv.ownBlock = some k → ¬ (k = g ∨ r.mv.ownBlock = some k) := fun k hk hk' => hk'.elim (fun e => row_ne h.nodes h.blk (by decide) (by rw [hk, e])) fun e => row_ne_row h.nodes h.msgs (by decide) k hk e
  have r_terms : ∀ k, r.tv.ownBlock = some k → ¬ (k = g ∨ r.mv.ownBlock = some k) := fun k hk hk' => hk'.elim (fun e => row_ne h.terms h.blk (by decide) (by rw [hk, e])) fun e => row_ne_row h.terms h.msgs (by decide) k hk e
  have r_leads : ∀ k, r.lv.ownBlock = some k → ¬ (k = g ∨ r.mv.ownBlock = some k) := fun k hk hk' => hk'.elim (fun e => row_ne h.leads h.blk (by decide) (by rw [hk, e])) fun e => row_ne_row h.leads h.msgs (by decide) k hk e
  refine ⟨⟨by have := hb4.set_ 1 v4; simpa [GR.cells] using this, own_chg h.nodes hc r_nodes, own_far hown hvg _ _, own_chg h.terms hc r_terms, own_chg h.leads hc r_leads, h.hg, h.is, fun y hy => (h.node y hy).other hc (fun k hk hk' => h.off y hy k hk (hW k hk')) hH, ?_, h.apart⟩, hc⟩
  intro y hy k hk hw
  have hlt := (h.node y hy).top k hk
  have hno := h.off y hy k hk
  unfold GR.W at hw hno
  simp only [not_or] at hno
  obtain ⟨n1, n2, n3, n4, n5⟩ := hno
  rcases hw with hw | hw | hw | hw | hw
  · exact n1 hw
  · exact n2 hw
  · rcases hat with e | e
    · exact n3 (by rw [← e]; exact hw)
    · have := e k hw; omega
  · exact n4 hw
  · exact n5 hw
theorem GrpP.terms_ (h : GrpP H w g r xs G) {v4 : Value} {ts : List Nat} (hq : Below w.heap.size w wq) (hown : w4.ownsRow H 22 1 v4 (G.terms ++ ts).length ((G.terms ++ ts).map uv)) (hg4 : wq.grownBy w4 r.tv.ownBlock) (hat : v4.ownBlock = r.tv.ownBlock ∨ ∀ k, v4.ownBlock = some k → w.heap.size ≤ k) :
    GrpP H (w4.setCell ⟨g, 2, none⟩ v4) g { r with tv := v4 } xs { G with terms := G.terms ++ ts } ∧ Chg (fun k => k = g ∨ r.tv.ownBlock = some k) w (w4.setCell ⟨g, 2, none⟩ v4) := by
  have hc : Chg (fun k => k = g ∨ r.tv.ownBlock = some k) w (w4.setCell ⟨g, 2, none⟩ v4) := ((Chg.below hq).same (Chg.grown hg4 fun k e => .inl (.inr e))).put (.inl rfl) 2 v4
  have hrg : r.tv.ownBlock ≠ some g := row_ne h.terms h.blk (by decide)
  have hb4 := (h.blk.after hq).grown hg4 fun e => hrg e.symm
  have hvg : v4.ownBlock ≠ some g := row_ne hown hb4 (by decide)
  have hW : ∀ k, (k = g ∨ r.tv.ownBlock = some k) → r.W g k := fun k hk => hk.elim .inl fun e => .inr (.inr (.inr (.inl e)))
  have hH : ∀ k, (k = g ∨ r.tv.ownBlock = some k) → H ≤ k := fun k hk => hk.elim (fun e => by rw [e]; exact h.hg) fun e => (h.terms.lt k e).1
  have r_nodes : ∀ k, r.nv.ownBlock = some k → ¬ (k = g ∨ r.tv.ownBlock = some k) := fun k hk hk' => hk'.elim (fun e => row_ne h.nodes h.blk (by decide) (by rw [hk, e])) fun e => row_ne_row h.nodes h.terms (by decide) k hk e
  have r_msgs : ∀ k, r.mv.ownBlock = some k → ¬ (k = g ∨ r.tv.ownBlock = some k) := fun k hk hk' => hk'.elim (fun e => row_ne h.msgs h.blk (by decide) (by rw [hk, e])) fun e => row_ne_row h.msgs h.terms (by decide) k hk e
  have r_leads : ∀ k, r.lv.ownBlock = some k → ¬ (k = g ∨ r.tv.ownBlock = some k) := fun k hk hk' => hk'.elim (fun e => row_ne h.leads h.blk (by decide) (by rw [hk, e])) fun e => row_ne_row h.leads h.terms (by decide) k hk e
  refine ⟨⟨by have := hb4.set_ 2 v4; simpa [GR.cells] using this, own_chg h.nodes hc r_nodes, own_chg h.msgs hc r_msgs, own_far hown hvg _ _, own_chg h.leads hc r_leads, h.hg, h.is, fun y hy => (h.node y hy).other hc (fun k hk hk' => h.off y hy k hk (hW k hk')) hH, ?_, h.apart⟩, hc⟩
  intro y hy k hk hw
  have hlt := (h.node y hy).top k hk
  have hno := h.off y hy k hk
  unfold GR.W at hw hno
  simp only [not_or] at hno
  obtain ⟨n1, n2, n3, n4, n5⟩ := hno
  rcases hw with hw | hw | hw | hw | hw
  · exact n1 hw
  · exact n2 hw
  · exact n3 hw
  · rcases hat with e | e
    · exact n4 (by rw [← e]; exact hw)
    · have := e k hw; omega
  · exact n5 hw
theorem GrpP.leads_ (h : GrpP H w g r xs G) {v4 : Value} {ls : List Int} (hq : Below w.heap.size w wq) (hown : w4.ownsRow H 3 1 v4 (G.leads ++ ls).length ((G.leads ++ ls).map iv)) (hg4 : wq.grownBy w4 r.lv.ownBlock) (hat : v4.ownBlock = r.lv.ownBlock ∨ ∀ k, v4.ownBlock = some k → w.heap.size ≤ k) :
    GrpP H (w4.setCell ⟨g, 3, none⟩ v4) g { r with lv := v4 } xs { G with leads := G.leads ++ ls } ∧ Chg (fun k => k = g ∨ r.lv.ownBlock = some k) w (w4.setCell ⟨g, 3, none⟩ v4) := by
  have hc : Chg (fun k => k = g ∨ r.lv.ownBlock = some k) w (w4.setCell ⟨g, 3, none⟩ v4) := ((Chg.below hq).same (Chg.grown hg4 fun k e => .inl (.inr e))).put (.inl rfl) 3 v4
  have hrg : r.lv.ownBlock ≠ some g := row_ne h.leads h.blk (by decide)
  have hb4 := (h.blk.after hq).grown hg4 fun e => hrg e.symm
  have hvg : v4.ownBlock ≠ some g := row_ne hown hb4 (by decide)
  have hW : ∀ k, (k = g ∨ r.lv.ownBlock = some k) → r.W g k := fun k hk => hk.elim .inl fun e => .inr (.inr (.inr (.inr e)))
  have hH : ∀ k, (k = g ∨ r.lv.ownBlock = some k) → H ≤ k := fun k hk => hk.elim (fun e => by rw [e]; exact h.hg) fun e => (h.leads.lt k e).1
  have r_nodes : ∀ k, r.nv.ownBlock = some k → ¬ (k = g ∨ r.lv.ownBlock = some k) := fun k hk hk' => hk'.elim (fun e => row_ne h.nodes h.blk (by decide) (by rw [hk, e])) fun e => row_ne_row h.nodes h.leads (by decide) k hk e
  have r_msgs : ∀ k, r.mv.ownBlock = some k → ¬ (k = g ∨ r.lv.ownBlock = some k) := fun k hk hk' => hk'.elim (fun e => row_ne h.msgs h.blk (by decide) (by rw [hk, e])) fun e => row_ne_row h.msgs h.leads (by decide) k hk e
  have r_terms : ∀ k, r.tv.ownBlock = some k → ¬ (k = g ∨ r.lv.ownBlock = some k) := fun k hk hk' => hk'.elim (fun e => row_ne h.terms h.blk (by decide) (by rw [hk, e])) fun e => row_ne_row h.terms h.leads (by decide) k hk e
  refine ⟨⟨by have := hb4.set_ 3 v4; simpa [GR.cells] using this, own_chg h.nodes hc r_nodes, own_chg h.msgs hc r_msgs, own_chg h.terms hc r_terms, own_far hown hvg _ _, h.hg, h.is, fun y hy => (h.node y hy).other hc (fun k hk hk' => h.off y hy k hk (hW k hk')) hH, ?_, h.apart⟩, hc⟩
  intro y hy k hk hw
  have hlt := (h.node y hy).top k hk
  have hno := h.off y hy k hk
  unfold GR.W at hw hno
  simp only [not_or] at hno
  obtain ⟨n1, n2, n3, n4, n5⟩ := hno
  rcases hw with hw | hw | hw | hw | hw
  · exact n1 hw
  · exact n2 hw
  · exact n3 hw
  · exact n4 hw
  · rcases hat with e | e
    · exact n5 (by rw [← e]; exact hw)
    · have := e k hw; omega
end
end Go.Proofs.Ytbgdepaffgeinaa

/- What is read of a group. -/
namespace Go.Proofs.Ytbgdepaffgeinaa
open Go.RowKit
theorem mcells_at : ∀ (ms : List Ms) (k : Nat) (m : Ms) (j : Nat) (u : Value), ms[k]? = some m → m.cells[j]? = some u → (mcells ms)[k * 10 + j]? = some u
  | [], k, m, j, u, h, _ => by simp at h
  | x :: ms, 0, m, j, u, h, hu => by
    simp at h
    subst h
    have hj : j < x.cells.length := (List.getElem?_eq_some_iff.1 hu).1
    show (x.cells ++ mcells ms)[0 * 10 + j]? = some u
    rw [Nat.zero_mul, Nat.zero_add, List.getElem?_append_left hj]
    exact hu
  | x :: ms, k + 1, m, j, u, h, hu => by
    have := mcells_at ms k m j u (by simpa using h) hu
    show (x.cells ++ mcells ms)[(k + 1) * 10 + j]? = some u
    have hl : x.cells.length = 10 := rfl
    rw [List.getElem?_append_right (by rw [hl]; omega), hl, show (k + 1) * 10 + j - 10 = k * 10 + j by omega]
    exact this
/-- a message of a row: its ten cells -/
theorem Sl.msg {w : World} {lo hi n c k : Nat} {A : Option Addr} {ms : List Ms} (h : Sl w lo hi 10 A n c (mcells ms)) (hk : k < n) :
    ∃ ad m, A = some ad ∧ ms[k]? = some m ∧ w.cell? (ad.add (k * 10)) = some (.int .i64 m.kind) ∧ ∀ j u, m.cells[j]? = some u → w.cell? ((ad.add (k * 10)).add j) = some u := by
  obtain ⟨ad, e, _, _, hc⟩ := h.at_ (by omega)
  have hl : k < ms.length := by have := h.len; rw [mcells_len] at this; omega
  have hm := List.getElem?_eq_getElem hl
  refine ⟨ad, ms[k], e, hm, ?_, fun j u hu => ?_⟩
  · exact hc (k * 10) _ (mcells_at ms k _ 0 _ hm rfl)
  · rw [add_of_add]
    exact hc _ _ (mcells_at ms k _ j u hm hu)
section
variable {H : Nat} {w : World} {g : Nat} {r : GR} {xs : List GN} {G : GP}
/-- the pointer to one of the nodes -/
theorem GrpP.ptr (h : GrpP H w g r xs G) {i : Nat} {y : GN} (hi : xs[i]? = some y) : ∃ ad c, r.nv = .slice (some ad) xs.length c ∧ w.cell? (ad.add i) = some (.pointer (some ⟨y.b, 0, none⟩)) ∧ xs.length ≤ c ∧ c ≤ 9223372036854775807 := by
  obtain ⟨A, c, hv, hs⟩ := own_sl h.nodes
  obtain ⟨ad, u, rfl, hu, hc⟩ := hs.nth (k := i) (List.getElem?_eq_some_iff.1 hi).1
  rw [List.getElem?_map, hi] at hu
  have hu' : y.ptr = u := by simpa using hu
  exact ⟨ad, c, hv, by rw [hc, ← hu']; rfl, hs.cap, hs.max⟩
theorem GrpP.len (h : GrpP H w g r xs G) : xs.length = G.nodes.length := by rw [← h.is, List.length_map]
theorem GrpP.nodeAt (h : GrpP H w g r xs G) {i : Nat} {x : ND} (hi : G.nodes[i]? = some x) : ∃ y, xs[i]? = some y ∧ y.x = x := by
  rw [← h.is, List.getElem?_map] at hi
  obtain ⟨y, hy, e⟩ := Option.map_eq_some_iff.1 hi
  exact ⟨y, hy, e⟩
end
end Go.Proofs.Ytbgdepaffgeinaa
