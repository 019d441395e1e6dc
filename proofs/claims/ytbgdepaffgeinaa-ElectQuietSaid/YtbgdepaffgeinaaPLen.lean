/- A group of nodes that ask, in plain words: how many messages there get to be. -/
import Derived.Test.YtbgdepaffgeinaaPBound
namespace Go.Proofs.Ytbgdepaffgeinaa
open Go.RowKit
theorem len_all (x : ND) (k : Int) (t i p : Nat) : (x.toAll k t i p).length ≤ x.conf.length := by
  unfold ND.toAll ND.others
  rw [List.length_map]
  exact List.length_filter_le _ _
theorem len_real (x : ND) : x.askReal.2.length ≤ x.conf.length := by
  unfold ND.askReal
  split
  · split
    · exact Nat.zero_le _
    · exact len_all x _ _ _ _
  · exact Nat.zero_le _
theorem len_pre (x : ND) : x.askPre.2.length ≤ x.conf.length := by
  unfold ND.askPre
  split
  · split
    · exact len_real x.asks
    · exact len_all x _ _ _ _
  · exact Nat.zero_le _
theorem len_chosen (x : ND) : x.chosen.2.length ≤ x.conf.length := by
  unfold ND.chosen
  split
  · exact len_real x
  · exact Nat.zero_le _
theorem len_vote (x : ND) (f : Int) (t : Nat) (nw : Bool) : (x.onVote f t nw).2.length ≤ 1 ∧ (x.onVote f t nw).1.conf = x.conf := by
  unfold ND.onVote
  split <;> exact ⟨Nat.le_refl _, rfl⟩
theorem len_onAsk (x : ND) (k f : Int) (t i p : Nat) : (x.onAsk k f t i p).2.length ≤ 1 ∧ (x.onAsk k f t i p).1.conf = x.conf := by
  unfold ND.onAsk
  split
  · split
    · exact len_vote (x.follow t (-1)) _ _ _
    · exact len_vote x _ _ _
  · split
    · exact ⟨Nat.le_refl _, rfl⟩
    · exact ⟨Nat.zero_le _, rfl⟩
theorem len_answer (x : ND) (k f : Int) (t : Nat) (ok : Bool) : (x.answer k f t ok).2.length ≤ x.conf.length := by
  unfold ND.answer
  split
  · simp only []
    split
    · exact len_chosen { x with yes := x.yes ++ [f] }
    · exact Nat.zero_le _
  · exact Nat.zero_le _
theorem len_onAnswer (x : ND) (k f : Int) (t : Nat) (ok : Bool) : (x.onAnswer k f t ok).2.length ≤ x.conf.length := by
  unfold ND.onAnswer
  split
  · split
    · exact len_answer (x.follow t (-1)) _ _ _ _
    · exact len_answer x _ _ _ _
  · exact Nat.zero_le _
theorem len_hear (x : ND) (m : Ms) : (x.hear m).2.length ≤ 1 + x.conf.length := by
  unfold ND.hear
  simp only []
  have h1 := len_onAsk x m.kind m.src m.term m.index m.prev
  have h2 := len_onAnswer (x.onAsk m.kind m.src m.term m.index m.prev).1 m.kind m.src m.term m.ok
  rw [h1.2] at h2
  rw [List.length_append]
  omega
structure GP.Fine (g : GP) (c : Nat) : Prop where
  bd : g.Bd c
  law : g.Law
  msgs : g.msgs.length ≤ 6 * c
  terms : g.terms.length ≤ c
  leads : g.leads.length ≤ c
theorem len_does {g : GP} {c : Nat} (h : g.Bd c) {x : ND} (hx : x ∈ g.nodes) (what : Int) (k : Nat) : (g.does what x k).2.length ≤ 6 := by
  have hc := (h.node x hx).conf
  unfold GP.does
  split
  · have := len_pre x; omega
  · split
    · have := len_real x; omega
    · split
      · split
        · next m hm => have := len_hear x m; omega
        · exact Nat.zero_le _
      · split
        · exact Nat.zero_le _
        · split <;> exact Nat.zero_le _
theorem len_at {g : GP} {c : Nat} (h : g.Bd c) (what who : Int) (k : Nat) : (g.at_ what who k).msgs.length ≤ g.msgs.length + 6 ∧ (g.at_ what who k).terms.length ≤ g.terms.length + 1 ∧ (g.at_ what who k).leads.length ≤ g.leads.length + 1 := by
  unfold GP.at_
  split
  · split
    · next x hx =>
      have := len_does h (List.mem_of_getElem? hx) what k
      unfold GP.done
      refine ⟨by simp; omega, ?_, ?_⟩
      · dsimp only; split <;> simp
      · dsimp only; split <;> simp
    · exact ⟨by omega, by omega, by omega⟩
  · exact ⟨by omega, by omega, by omega⟩
theorem fine_play {g : GP} {c : Nat} (h : g.Fine c) (what k : Int) : (g.play what k).Fine (c + 1) := by
  have hl : (g.play what k).msgs.length ≤ g.msgs.length + 6 ∧ (g.play what k).terms.length ≤ g.terms.length + 1 ∧ (g.play what k).leads.length ≤ g.leads.length + 1 := by
    unfold GP.play
    split
    · split
      · split
        · exact len_at h.bd _ _ _
        · exact ⟨by omega, by omega, by omega⟩
      · exact ⟨by omega, by omega, by omega⟩
    · exact len_at h.bd _ _ _
  have h1 := h.msgs
  have h2 := h.terms
  have h3 := h.leads
  exact ⟨bd_play h.bd what k, law_play h.law what k, by omega, by omega, by omega⟩
theorem fine_ok {g : GP} {c : Nat} (h : g.Fine c) (hc : c ≤ 250) {i : Nat} {x : ND} (hi : g.nodes[i]? = some x) : x.base < 1152921504606846976 ∧ x.es.length ≤ 900 ∧ x.conf.length ≤ 1000 ∧ 0 ≤ x.me ∧ x.me < 16 ∧ x.term < 4611686018427387904 ∧ x.yes.length ≤ 10000 := by
  have hb := h.bd.node x (List.mem_of_getElem? hi)
  have hm := h.law.me i x hi
  have hl := (List.getElem?_eq_some_iff.1 hi).1
  have hf := h.bd.few
  have h1 := hb.base
  have h2 := hb.es
  have h3 := hb.conf
  have h4 := hb.term
  have h5 := hb.yes
  exact ⟨by omega, by omega, by omega, by omega, by omega, by omega, by omega⟩
end Go.Proofs.Ytbgdepaffgeinaa
