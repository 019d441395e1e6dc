/- A group of nodes that ask, in memory. -/
import Derived.Test.YtbgdepaffgeinaaElLog
import Derived.Test.YtbgdepaffgeinaaPBound
namespace Go.Proofs.Ytbgdepaffgeinaa
open Go.RowKit
/-- one node of the group: its block, its parts, its blocks, what it is -/
structure GN where
  b : Nat
  p : NP
  O : Nat → Prop
  x : ND
def GN.ptr (y : GN) : Value := .pointer (some ⟨y.b, 0, none⟩)
structure GR where
  nv : Value
  mv : Value
  tv : Value
  lv : Value
def GR.cells (r : GR) : Array Value := #[r.nv, r.mv, r.tv, r.lv]
/-- the group's own blocks: it, its four rows -/
def GR.W (r : GR) (g : Nat) : Nat → Prop := fun k => k = g ∨ r.nv.ownBlock = some k ∨ r.mv.ownBlock = some k ∨ r.tv.ownBlock = some k ∨ r.lv.ownBlock = some k
structure GrpP (H : Nat) (w : World) (g : Nat) (r : GR) (xs : List GN) (G : GP) : Prop where
  blk : Blk w g 73 r.cells
  nodes : w.ownsRow H 52 1 r.nv xs.length (xs.map GN.ptr)
  msgs : w.ownsRow H 81 10 r.mv G.msgs.length (mcells G.msgs)
  terms : w.ownsRow H 22 1 r.tv G.terms.length (G.terms.map uv)
  leads : w.ownsRow H 3 1 r.lv G.leads.length (G.leads.map iv)
  hg : H ≤ g
  is : xs.map GN.x = G.nodes
  node : ∀ y ∈ xs, NodeP H w y.O y.b y.p y.x
  off : ∀ y ∈ xs, ∀ k, y.O k → ¬ r.W g k
  apart : xs.Pairwise fun a b => ∀ k, a.O k → ¬ b.O k
section
variable {H : Nat} {w w1 : World} {g : Nat} {r : GR} {xs : List GN} {G : GP}
theorem GrpP.W_lt (h : GrpP H w g r xs G) : ∀ k, r.W g k → k < w.heap.size := by
  rintro k (rfl | hk | hk | hk | hk)
  · exact h.blk.lt
  · exact (h.nodes.lt k hk).2
  · exact (h.msgs.lt k hk).2
  · exact (h.terms.lt k hk).2
  · exact (h.leads.lt k hk).2
theorem GrpP.after (h : GrpP H w g r xs G) (hb : Below w.heap.size w w1) : GrpP H w1 g r xs G :=
  ⟨h.blk.after hb, own_after h.nodes hb, own_after h.msgs hb, own_after h.terms hb, own_after h.leads hb, h.hg, h.is, fun y hy => (h.node y hy).after hb, h.off, h.apart⟩
/-- one node turns -/
theorem GrpP.turn (h : GrpP H w g r xs G) {i : Nat} {y : GN} (hi : xs[i]? = some y) {p' : NP} {O' : Nat → Prop} {x' : ND} (hN : NodeP H w1 O' y.b p' x') (hs : Sub y.O w O') (hc : Chg y.O w w1) :
    GrpP H w1 g r (xs.set i ⟨y.b, p', O', x'⟩) { G with nodes := G.nodes.set i x' } := by
  have hym := List.mem_of_getElem? hi
  have hil := (List.getElem?_eq_some_iff.1 hi).1
  have hoff := h.off y hym
  have hoth : ∀ (j : Nat) (z : GN), j ≠ i → xs[j]? = some z → ∀ k, z.O k → ¬ y.O k := fun j z hj hz => by
    obtain ⟨hjl, hje⟩ := List.getElem?_eq_some_iff.1 hz
    obtain ⟨_, hie⟩ := List.getElem?_eq_some_iff.1 hi
    have hpw := List.pairwise_iff_getElem.1 h.apart
    rcases Nat.lt_or_gt_of_ne hj with hlt | hgt
    · have := hpw j i hjl hil hlt
      rw [hje, hie] at this
      exact this
    · have := hpw i j hil hjl hgt
      rw [hje, hie] at this
      exact fun k hk hk' => this k hk' hk
  have hlowO : ∀ k, y.O k → H ≤ k := (h.node y hym).low
  have rows : ∀ {size n : Nat} {e : TypeId} {v : Value} {zs : List Value}, w.ownsRow H e size v n zs → (∀ k, v.ownBlock = some k → r.W g k) → w1.ownsRow H e size v n zs := fun hr hv => own_chg hr hc fun k hk hO => hoff k hO (hv k hk)
  have hset : ∀ (j : Nat) (z : GN), (xs.set i ⟨y.b, p', O', x'⟩)[j]? = some z → (j = i ∧ z = ⟨y.b, p', O', x'⟩) ∨ (j ≠ i ∧ xs[j]? = some z) := fun j z hz => by
    rw [List.getElem?_set] at hz
    split at hz
    · next e =>
      subst e
      try rw [if_pos hil] at hz
      injection hz with hz
      exact .inl ⟨rfl, hz.symm⟩
    · next e => exact .inr ⟨fun e' => e e'.symm, hz⟩
  refine ⟨h.blk.chg hc fun hO => hoff g hO (.inl rfl), ?_, rows h.msgs fun k hk => .inr (.inr (.inl hk)), rows h.terms fun k hk => .inr (.inr (.inr (.inl hk))), rows h.leads fun k hk => .inr (.inr (.inr (.inr hk))), h.hg, ?_, ?_, ?_, ?_⟩
  · have e1 : (xs.set i ⟨y.b, p', O', x'⟩).map GN.ptr = xs.map GN.ptr := by
      rw [List.map_set]
      have : GN.ptr ⟨y.b, p', O', x'⟩ = y.ptr := rfl
      rw [this]
      apply List.ext_getElem?
      intro j
      rw [List.getElem?_set]
      split
      · next e =>
        subst e
        rw [List.getElem?_map, hi]
        simp [hil]
      · rfl
    rw [e1, List.length_set]
    exact rows h.nodes fun k hk => .inr (.inl hk)
  · show (xs.set i ⟨y.b, p', O', x'⟩).map GN.x = G.nodes.set i x'
    rw [List.map_set, h.is]
  · intro z hz
    obtain ⟨j, hj⟩ := List.getElem?_of_mem hz
    rcases hset j z hj with ⟨_, rfl⟩ | ⟨hne, hj⟩
    · exact hN
    · exact (h.node z (List.mem_of_getElem? hj)).other hc (hoth j z hne hj) hlowO
  · intro z hz k hk hw
    obtain ⟨j, hj⟩ := List.getElem?_of_mem hz
    rcases hset j z hj with ⟨_, rfl⟩ | ⟨hne, hj⟩
    · rcases hs k hk with h1 | h1
      · exact hoff k h1 hw
      · have := h.W_lt k hw; omega
    · exact h.off z (List.mem_of_getElem? hj) k hk hw
  · rw [List.pairwise_iff_getElem]
    intro j k hj hk hjk a ha hb
    have hj' := hset j _ (List.getElem?_eq_getElem hj)
    have hk' := hset k _ (List.getElem?_eq_getElem hk)
    have fresh : ∀ (q : Nat) (z : GN), q ≠ i → xs[q]? = some z → ∀ a, O' a → z.O a → False := fun q z hq hz a h1 h2 => by
      rcases hs a h1 with h3 | h3
      · exact hoth q z hq hz a h2 h3
      · have := (h.node z (List.mem_of_getElem? hz)).top a h2; omega
    rcases hj' with ⟨e1, e2⟩ | ⟨e1, e2⟩
    · rcases hk' with ⟨e3, e4⟩ | ⟨e3, e4⟩
      · omega
      · rw [e2] at ha
        exact fresh k _ e3 e4 a ha hb
    · rcases hk' with ⟨e3, e4⟩ | ⟨e3, e4⟩
      · rw [e4] at hb
        exact fresh j _ e1 e2 a hb ha
      · have hpw := List.pairwise_iff_getElem.1 h.apart
        obtain ⟨l1, q1⟩ := List.getElem?_eq_some_iff.1 e2
        obtain ⟨l2, q2⟩ := List.getElem?_eq_some_iff.1 e4
        have := hpw j k l1 l2 hjk
        rw [q1, q2] at this
        exact this a ha hb
end
end Go.Proofs.Ytbgdepaffgeinaa
