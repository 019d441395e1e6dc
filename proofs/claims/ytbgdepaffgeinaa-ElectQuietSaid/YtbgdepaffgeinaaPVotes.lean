/- A group of nodes that ask, in plain words: who votes votes for one. -/
import Derived.Test.YtbgdepaffgeinaaPGroup
namespace Go.Proofs.Ytbgdepaffgeinaa
open Go.RowKit
def Ms.yes (m : Ms) : Prop := m.kind = 2 ∧ m.ok = true
/-- what a node sends: of itself; a yes says how it votes -/
def Sends (x : ND) (r : ND × List Ms) : Prop := r.1.me = x.me ∧ ∀ m ∈ r.2, m.src = x.me ∧ (m.yes → m.term = r.1.term ∧ r.1.vote = m.dst ∧ 0 ≤ m.dst)
theorem sends_nil {x y : ND} (h : y.me = x.me) : Sends x (y, []) := ⟨h, fun m hm => by cases hm⟩
theorem sends_all (x y : ND) (z : ND) (k : Int) (t i p : Nat) (hy : y.me = x.me) (hz : z.me = x.me) : Sends x (y, z.toAll k t i p) := ⟨hy, fun m hm => by
  unfold ND.toAll at hm
  obtain ⟨d, -, rfl⟩ := List.mem_map.1 hm
  exact ⟨hz, fun h => by cases h.2⟩⟩
theorem sends_real (x : ND) : Sends x x.askReal := by
  unfold ND.askReal
  split
  · split
    · exact sends_nil rfl
    · exact sends_all x x.reals x _ _ _ _ rfl rfl
  · exact sends_nil rfl
theorem sends_pre (x : ND) : Sends x x.askPre := by
  unfold ND.askPre
  split
  · split
    · exact sends_real x.asks
    · exact sends_all x x.asks x _ _ _ _ rfl rfl
  · exact sends_nil rfl
theorem sends_chosen (x : ND) : Sends x x.chosen := by
  unfold ND.chosen
  split
  · exact sends_real x
  · exact sends_nil rfl
theorem sends_vote (x : ND) (f : Int) (t : Nat) (nw : Bool) (hf : 0 ≤ f) : Sends x (x.onVote f t nw) := by
  unfold ND.onVote
  split
  · exact ⟨rfl, fun m hm => by
      rw [List.mem_singleton.1 hm]
      exact ⟨rfl, fun _ => ⟨rfl, rfl, hf⟩⟩⟩
  · exact ⟨rfl, fun m hm => by
      rw [List.mem_singleton.1 hm]
      exact ⟨rfl, fun h => by cases h.2⟩⟩
theorem sends_onAsk (x : ND) (k f : Int) (t i p : Nat) (hf : 0 ≤ f) : Sends x (x.onAsk k f t i p) := by
  unfold ND.onAsk
  split
  · split
    · exact sends_vote (x.follow t (-1)) _ _ _ hf
    · exact sends_vote _ _ _ _ hf
  · split
    · refine ⟨rfl, fun m hm => ?_⟩
      have hm' := List.mem_singleton.1 hm
      subst hm'
      split
      · exact ⟨rfl, fun h => absurd h.1 (show ¬ (4 : Int) = 2 by decide)⟩
      · exact ⟨rfl, fun h => absurd h.1 (show ¬ (4 : Int) = 2 by decide)⟩
    · exact sends_nil rfl
theorem sends_answer (x : ND) (k f : Int) (t : Nat) (ok : Bool) : Sends x (x.answer k f t ok) := by
  unfold ND.answer
  split
  · simp only []
    split
    · exact sends_chosen { x with yes := x.yes ++ [f] }
    · exact sends_nil rfl
  · exact sends_nil rfl
theorem sends_onAnswer (x : ND) (k f : Int) (t : Nat) (ok : Bool) : Sends x (x.onAnswer k f t ok) := by
  unfold ND.onAnswer
  split
  · split
    · exact sends_answer (x.follow t (-1)) _ _ _ _
    · exact sends_answer _ _ _ _ _
  · exact sends_nil rfl
theorem onAsk_nil (x : ND) (k f : Int) (t i p : Nat) (h1 : k ≠ 1) (h3 : k ≠ 3) : x.onAsk k f t i p = (x, []) := by
  unfold ND.onAsk
  rw [if_neg h1, if_neg h3]
theorem onAnswer_nil (x : ND) (k f : Int) (t : Nat) (ok : Bool) (h : ¬ (k = 2 ∨ k = 4)) : x.onAnswer k f t ok = (x, []) := by
  unfold ND.onAnswer
  rw [if_neg h]
theorem sends_hear (x : ND) (m : Ms) (hf : 0 ≤ m.src) : Sends x (x.hear m) := by
  unfold ND.hear
  simp only []
  by_cases h : m.kind = 2 ∨ m.kind = 4
  · have e := onAsk_nil x m.kind m.src m.term m.index m.prev (by omega) (by omega)
    rw [e]
    exact sends_onAnswer x _ _ _ _
  · rw [onAnswer_nil _ _ _ _ _ h]
    simp only [List.append_nil]
    exact sends_onAsk x _ _ _ _ _ hf
theorem sends_does (g : GP) (what : Int) (x : ND) (k : Nat) (hg : ∀ m ∈ g.msgs, 0 ≤ m.src) : Sends x (g.does what x k) := by
  unfold GP.does
  split
  · exact sends_pre x
  · split
    · exact sends_real x
    · split
      · split
        · next m hm => exact sends_hear x _ (hg m (List.mem_of_getElem? hm))
        · exact sends_nil rfl
      · split
        · exact sends_nil rfl
        · split <;> exact sends_nil rfl
/-- the group's law -/
structure GP.Law (g : GP) : Prop where
  me : ∀ (i : Nat) (x : ND), g.nodes[i]? = some x → x.me = (i : Int)
  src : ∀ m ∈ g.msgs, 0 ≤ m.src ∧ m.src < g.nodes.length
  vote : ∀ m ∈ g.msgs, m.yes → ∀ (x : ND), g.nodes[m.src.toNat]? = some x → m.term < x.term ∨ (x.term = m.term ∧ x.vote = m.dst ∧ 0 ≤ m.dst)
  one : ∀ a ∈ g.msgs, ∀ b ∈ g.msgs, a.yes → b.yes → a.src = b.src → a.term = b.term → a.dst = b.dst
theorem law_done {g : GP} (h : g.Law) {i : Nat} {x : ND} (hx : g.nodes[i]? = some x) {r : ND × List Ms} (hs : Sends x r) (hr : Rises x r.1) : (g.done i r).Law := by
  have hil := (List.getElem?_eq_some_iff.1 hx).1
  have hme := h.me i x hx
  have hn : ∀ (j : Nat) (y : ND), (g.nodes.set i r.1)[j]? = some y → (j = i ∧ y = r.1) ∨ (j ≠ i ∧ g.nodes[j]? = some y) := fun j y hy => by
    rw [List.getElem?_set] at hy
    split at hy
    · next e =>
      subst e
      try rw [if_pos hil] at hy
      injection hy with hy
      exact .inl ⟨rfl, hy.symm⟩
    · next e => exact .inr ⟨fun e' => e e'.symm, hy⟩
  have hnew : ∀ m ∈ r.2, m.src.toNat = i := fun m hm => by rw [(hs.2 m hm).1, hme]; rfl
  refine ⟨fun j y hy => ?_, fun m hm => ?_, fun m hm hyes y hy => ?_, fun a ha b hb ya yb hsrc ht => ?_⟩
  · rcases hn j y hy with ⟨rfl, rfl⟩ | ⟨_, hy⟩
    · rw [hs.1]; exact hme
    · exact h.me j y hy
  · show 0 ≤ m.src ∧ m.src < ((g.nodes.set i r.1).length : Int)
    rw [List.length_set]
    rcases List.mem_append.1 hm with hm | hm
    · exact h.src m hm
    · rw [(hs.2 m hm).1, hme]
      omega
  · rcases List.mem_append.1 hm with hm | hm
    · rcases hn _ y hy with ⟨e, rfl⟩ | ⟨_, hy⟩
      · rcases h.vote m hm hyes x (by rw [e]; exact hx) with h1 | ⟨h1, h2, h3⟩
        · rcases hr with k | ⟨k, _⟩ <;> exact .inl (by omega)
        · rcases hr with k | ⟨k1, k2⟩
          · exact .inl (by omega)
          · rcases k2 with k2 | k2
            · omega
            · exact .inr ⟨by omega, by rw [k2, h2], h3⟩
      · exact h.vote m hm hyes y hy
    · have h1 := (hs.2 m hm).2 hyes
      rcases hn _ y hy with ⟨_, rfl⟩ | ⟨e, _⟩
      · exact .inr ⟨h1.1.symm, h1.2.1, h1.2.2⟩
      · exact absurd (hnew m hm) e
  · have key : ∀ a ∈ r.2, ∀ b ∈ g.msgs, a.yes → b.yes → a.src = b.src → a.term = b.term → a.dst = b.dst := fun a ha b hb ya yb hsrc ht => by
      have h1 := (hs.2 a ha).2 ya
      have hb' := h.vote b hb yb x (by rw [← hsrc, hnew a ha]; exact hx)
      rcases hb' with h2 | ⟨h2, h3, h4⟩
      · rcases hr with k | ⟨k, _⟩ <;> omega
      · rcases hr with k | ⟨k1, k2⟩
        · omega
        · rcases k2 with k2 | k2
          · omega
          · rw [← h1.2.1, k2, h3]
    rcases List.mem_append.1 ha with ha | ha
    · rcases List.mem_append.1 hb with hb | hb
      · exact h.one a ha b hb ya yb hsrc ht
      · exact (key b hb a ha yb ya hsrc.symm ht.symm).symm
    · rcases List.mem_append.1 hb with hb | hb
      · exact key a ha b hb ya yb hsrc ht
      · rw [← ((hs.2 a ha).2 ya).2.1, ← ((hs.2 b hb).2 yb).2.1]
theorem law_at {g : GP} (h : g.Law) (what who : Int) (k : Nat) : (g.at_ what who k).Law := by
  unfold GP.at_
  split
  · split
    · next x hx => exact law_done h hx (sends_does g what x k fun m hm => (h.src m hm).1) (rises_does g what x k)
    · exact h
  · exact h
/-- WHO VOTES VOTES FOR ONE -/
theorem law_play {g : GP} (h : g.Law) (what k : Int) : (g.play what k).Law := by
  unfold GP.play
  split
  · split
    · split
      · exact law_at h _ _ _
      · exact h
    · exact h
  · exact law_at h _ _ _
end Go.Proofs.Ytbgdepaffgeinaa
