/- A group of nodes that ask, in plain words: how large its numbers get. -/
import Derived.Test.YtbgdepaffgeinaaPVotes
namespace Go.Proofs.Ytbgdepaffgeinaa
open Go.RowKit
structure ND.Bd (x : ND) (t e y : Nat) : Prop where
  base : x.base = 0
  conf : x.conf.length ≤ 5
  term : x.term ≤ t
  es : x.es.length ≤ e
  yes : x.yes.length ≤ y
theorem ND.Bd.mono {x : ND} {t e y t' e' y' : Nat} (h : x.Bd t e y) (h1 : t ≤ t') (h2 : e ≤ e') (h3 : y ≤ y') : x.Bd t' e' y' := ⟨h.base, h.conf, Nat.le_trans h.term h1, Nat.le_trans h.es h2, Nat.le_trans h.yes h3⟩
/-- a node and what it sends -/
def BdR (t e y m : Nat) (r : ND × List Ms) : Prop := r.1.Bd t e y ∧ ∀ a ∈ r.2, a.term ≤ m
theorem BdR.mono {t e y m t' e' y' m' : Nat} {r : ND × List Ms} (h : BdR t e y m r) (h1 : t ≤ t') (h2 : e ≤ e') (h3 : y ≤ y') (h4 : m ≤ m') : BdR t' e' y' m' r := ⟨h.1.mono h1 h2 h3, fun a ha => Nat.le_trans (h.2 a ha) h4⟩
theorem bdr_nil {x : ND} {t e y m : Nat} (h : x.Bd t e y) : BdR t e y m (x, []) := ⟨h, fun a ha => by cases ha⟩
variable {x : ND} {t e y : Nat}
theorem bd_follow (h : x.Bd t e y) {m t' : Nat} (l : Int) (hm : m ≤ t') (ht : t ≤ t') : (x.follow m l).Bd t' e y := by
  refine ⟨h.base, h.conf, ?_, h.es, Nat.zero_le _⟩
  show (if x.term < m then m else x.term) ≤ t'
  have := h.term
  split <;> omega
theorem bd_lead (h : x.Bd t e y) : x.toLead.Bd t (e + 1) y := ⟨h.base, h.conf, h.term, by show (x.es ++ [tent x.term]).length ≤ e + 1; rw [List.length_append]; have := h.es; simp; omega, Nat.zero_le _⟩
theorem bdr_all {z : ND} (hz : z.Bd t e y) (w : ND) (k : Int) {q i p m : Nat} (hq : q ≤ m) : BdR t e y m (z, w.toAll k q i p) := ⟨hz, fun a ha => by
  unfold ND.toAll at ha
  obtain ⟨d, -, rfl⟩ := List.mem_map.1 ha
  exact hq⟩
theorem bd_reals (h : x.Bd t e y) (hy : 1 ≤ y) : x.reals.Bd (t + 1) e y := ⟨h.base, h.conf, by show x.term + 1 ≤ t + 1; have := h.term; omega, h.es, hy⟩
theorem bd_asks (h : x.Bd t e y) (hy : 1 ≤ y) : x.asks.Bd t e y := ⟨h.base, h.conf, h.term, h.es, hy⟩
theorem bdr_real (h : x.Bd t e y) (hy : 1 ≤ y) : BdR (t + 1) (e + 1) y (t + 1) x.askReal := by
  unfold ND.askReal
  have ht := h.term
  split
  · split
    · exact bdr_nil (bd_lead (bd_reals h hy))
    · exact bdr_all ((bd_reals h hy).mono (Nat.le_refl _) (by omega) (Nat.le_refl _)) x 1 (by omega)
  · exact bdr_nil (h.mono (by omega) (by omega) (Nat.le_refl _))
theorem bdr_pre (h : x.Bd t e y) (hy : 1 ≤ y) : BdR (t + 1) (e + 1) y (t + 1) x.askPre := by
  unfold ND.askPre
  have ht := h.term
  split
  · split
    · exact bdr_real (bd_asks h hy) hy
    · exact bdr_all ((bd_asks h hy).mono (by omega) (by omega) (Nat.le_refl _)) x 3 (by omega)
  · exact bdr_nil (h.mono (by omega) (by omega) (Nat.le_refl _))
theorem bdr_chosen (h : x.Bd t e y) (hy : 1 ≤ y) : BdR (t + 1) (e + 1) y (t + 1) x.chosen := by
  unfold ND.chosen
  split
  · exact bdr_real h hy
  · exact bdr_nil ((bd_lead h).mono (by omega) (by omega) (Nat.le_refl _))
theorem bdr_vote (h : x.Bd t e y) (f : Int) (q : Nat) (nw : Bool) : BdR t e y t (x.onVote f q nw) := by
  unfold ND.onVote
  split
  · exact ⟨⟨h.base, h.conf, h.term, h.es, h.yes⟩, fun a ha => by rw [List.mem_singleton.1 ha]; exact h.term⟩
  · exact ⟨h, fun a ha => by rw [List.mem_singleton.1 ha]; exact h.term⟩
theorem bdr_onAsk (h : x.Bd t e y) (k f : Int) {q i p t' : Nat} (hq : q ≤ t') (ht : t ≤ t') : BdR t' e y t' (x.onAsk k f q i p) := by
  have h' := h.mono ht (Nat.le_refl _) (Nat.le_refl _)
  unfold ND.onAsk
  split
  · split
    · exact bdr_vote (bd_follow h (-1) hq ht) _ _ _
    · exact bdr_vote h' _ _ _
  · split
    · refine ⟨h', fun a ha => ?_⟩
      rw [List.mem_singleton.1 ha]
      split
      · exact hq
      · exact h'.term
    · exact bdr_nil h'
theorem bdr_answer (h : x.Bd t e y) (k f : Int) (q : Nat) (ok : Bool) : BdR (t + 1) (e + 1) (y + 1) (t + 1) (x.answer k f q ok) := by
  unfold ND.answer
  split
  · have h1 : ({ x with yes := x.yes ++ [f] } : ND).Bd t e (y + 1) := ⟨h.base, h.conf, h.term, h.es, by show (x.yes ++ [f]).length ≤ y + 1; rw [List.length_append]; have := h.yes; simp; omega⟩
    simp only []
    split
    · exact bdr_chosen h1 (by omega)
    · exact bdr_nil (h1.mono (by omega) (by omega) (Nat.le_refl _))
  · exact bdr_nil (h.mono (by omega) (by omega) (by omega))
theorem bdr_onAnswer (h : x.Bd t e y) (k f : Int) {q t' : Nat} (ok : Bool) (hq : q ≤ t') (ht : t ≤ t') : BdR (t' + 1) (e + 1) (y + 1) (t' + 1) (x.onAnswer k f q ok) := by
  have h' := h.mono ht (Nat.le_refl _) (Nat.le_refl _)
  unfold ND.onAnswer
  split
  · split
    · exact bdr_answer (bd_follow h (-1) hq ht) _ _ _ _
    · exact bdr_answer h' _ _ _ _
  · exact bdr_nil (h'.mono (by omega) (by omega) (by omega))
theorem bdr_hear (h : x.Bd t e y) (m : Ms) {t' : Nat} (hq : m.term ≤ t') (ht : t ≤ t') : BdR (t' + 1) (e + 1) (y + 1) (t' + 1) (x.hear m) := by
  unfold ND.hear
  simp only []
  have h1 := bdr_onAsk h m.kind m.src (q := m.term) (i := m.index) (p := m.prev) hq ht
  have h2 := bdr_onAnswer h1.1 m.kind m.src m.ok hq (Nat.le_refl t')
  refine ⟨h2.1, fun a ha => ?_⟩
  rcases List.mem_append.1 ha with ha | ha
  · have := h1.2 a ha; omega
  · exact h2.2 a ha
/-- behind c things that were done -/
structure GP.Bd (g : GP) (c : Nat) : Prop where
  node : ∀ x ∈ g.nodes, x.Bd (99 + 2 * c) (6 + c) (1 + c)
  msg : ∀ m ∈ g.msgs, m.term ≤ 100 + 2 * c
  few : g.nodes.length ≤ 5
theorem GP.Bd.mono {g : GP} {c d : Nat} (h : g.Bd c) (hd : c ≤ d) : g.Bd d := ⟨fun x hx => (h.node x hx).mono (by omega) (by omega) (by omega), fun m hm => by have := h.msg m hm; omega, h.few⟩
theorem bdr_does {g : GP} {c : Nat} (h : g.Bd c) {x : ND} (hx : x ∈ g.nodes) (what : Int) (k : Nat) : BdR (99 + 2 * (c + 1)) (6 + (c + 1)) (1 + (c + 1)) (100 + 2 * (c + 1)) (g.does what x k) := by
  have hb := h.node x hx
  have stay : ∀ {z : ND}, z.base = x.base → z.conf = x.conf → z.term = x.term → z.es = x.es → z.yes = x.yes → BdR (99 + 2 * (c + 1)) (6 + (c + 1)) (1 + (c + 1)) (100 + 2 * (c + 1)) (z, []) := fun h1 h2 h3 h4 h5 =>
    bdr_nil ⟨h1 ▸ hb.base, h2 ▸ hb.conf, by rw [h3]; have := hb.term; omega, by rw [h4]; have := hb.es; omega, by rw [h5]; have := hb.yes; omega⟩
  unfold GP.does
  split
  · exact (bdr_pre hb (by omega)).mono (by omega) (by omega) (by omega) (by omega)
  · split
    · exact (bdr_real hb (by omega)).mono (by omega) (by omega) (by omega) (by omega)
    · split
      · split
        · next m hm => exact (bdr_hear hb m (t' := 100 + 2 * c) (h.msg m (List.mem_of_getElem? hm)) (by omega)).mono (by omega) (by omega) (by omega) (by omega)
        · exact stay rfl rfl rfl rfl rfl
      · split
        · exact stay rfl rfl rfl rfl rfl
        · split <;> exact stay rfl rfl rfl rfl rfl
theorem bd_done {g : GP} {c : Nat} (h : g.Bd c) (i : Nat) {r : ND × List Ms} (hr : BdR (99 + 2 * (c + 1)) (6 + (c + 1)) (1 + (c + 1)) (100 + 2 * (c + 1)) r) : (g.done i r).Bd (c + 1) := by
  have h' := h.mono (show c ≤ c + 1 by omega)
  refine ⟨fun x hx => ?_, fun m hm => ?_, by show (g.nodes.set i r.1).length ≤ 5; rw [List.length_set]; exact h.few⟩
  · rcases List.mem_or_eq_of_mem_set hx with hx | hx
    · exact h'.node x hx
    · rw [hx]; exact hr.1
  · rcases List.mem_append.1 hm with hm | hm
    · exact h'.msg m hm
    · exact hr.2 m hm
theorem bd_at {g : GP} {c : Nat} (h : g.Bd c) (what who : Int) (k : Nat) : (g.at_ what who k).Bd (c + 1) := by
  unfold GP.at_
  split
  · split
    · next x hx => exact bd_done h _ (bdr_does h (List.mem_of_getElem? hx) what k)
    · exact h.mono (by omega)
  · exact h.mono (by omega)
theorem bd_play {g : GP} {c : Nat} (h : g.Bd c) (what k : Int) : (g.play what k).Bd (c + 1) := by
  unfold GP.play
  split
  · split
    · split
      · exact bd_at h _ _ _
      · exact h.mono (by omega)
    · exact h.mono (by omega)
  · exact bd_at h _ _ _
end Go.Proofs.Ytbgdepaffgeinaa
