import Derived.Test.YtbgdepaffgeinaaPElect
/- A group of nodes that ask, in plain words: terms never fall. -/
namespace Go.Proofs.Ytbgdepaffgeinaa
open Go.RowKit
structure GP where
  nodes : List ND
  msgs : List Ms
  terms : List Nat
  leads : List Int
/-- what comes to node x -/
def ND.hear (x : ND) (m : Ms) : ND × List Ms :=
  let a := x.onAsk m.kind m.src m.term m.index m.prev
  let b := a.1.onAnswer m.kind m.src m.term m.ok
  (b.1, a.2 ++ b.2)
def GP.done (g : GP) (i : Nat) (r : ND × List Ms) : GP := ⟨g.nodes.set i r.1, g.msgs ++ r.2, if r.1.role = 3 then g.terms ++ [r.1.term] else g.terms, if r.1.role = 3 then g.leads ++ [(i : Int)] else g.leads⟩
def GP.does (g : GP) (what : Int) (x : ND) (k : Nat) : ND × List Ms :=
  if what = 1 then x.askPre else if what = 2 then x.askReal else if what = 3 then (match g.msgs[k]? with | some m => x.hear m | none => (x, []))
  else if what = 4 then ({ x with heard := true }, []) else if what = 5 then ({ x with heard := false }, []) else (x, [])
def GP.at_ (g : GP) (what : Int) (who : Int) (k : Nat) : GP :=
  if 0 ≤ who ∧ who < g.nodes.length then (match g.nodes[who.toNat]? with | some x => g.done who.toNat (g.does what x k) | none => g) else g
def GP.play (g : GP) (what k : Int) : GP :=
  if what = 3 then (if 0 ≤ k ∧ k < g.msgs.length then (match g.msgs[k.toNat]? with | some m => g.at_ what m.dst k.toNat | none => g) else g)
  else g.at_ what k k.toNat
/-- a node's term does not fall, and in one term its vote stays -/
def Rises (x y : ND) : Prop := x.term < y.term ∨ (x.term = y.term ∧ (x.vote = -1 ∨ y.vote = x.vote))
theorem Rises.refl (x : ND) : Rises x x := .inr ⟨rfl, .inr rfl⟩
theorem Rises.trans {x y z : ND} (h : Rises x y) (k : Rises y z) : Rises x z := by
  unfold Rises at *
  rcases h with h | ⟨h1, h2⟩
  · rcases k with k | ⟨k1, _⟩ <;> exact .inl (by omega)
  · rcases k with k | ⟨k1, k2⟩
    · exact .inl (by omega)
    · refine .inr ⟨by omega, ?_⟩
      rcases h2 with h2 | h2
      · exact .inl h2
      · rcases k2 with k2 | k2
        · exact .inl (by rw [← h2]; exact k2)
        · exact .inr (by rw [k2, h2])
theorem rises_follow (x : ND) (t : Nat) (l : Int) : Rises x (x.follow t l) := by
  unfold Rises ND.follow
  by_cases h : x.term < t
  · exact .inl (by simp [h])
  · exact .inr ⟨by simp [h], .inr (by simp [h])⟩
theorem rises_same {x y : ND} (h1 : y.term = x.term) (h2 : y.vote = x.vote) : Rises x y := .inr ⟨h1.symm, .inr h2⟩
theorem rises_real (x : ND) : Rises x x.askReal.1 := by
  unfold ND.askReal
  split
  · split
    · exact .inl (by show x.term < x.term + 1; omega)
    · exact .inl (by show x.term < x.term + 1; omega)
  · exact Rises.refl x
theorem rises_pre (x : ND) : Rises x x.askPre.1 := by
  unfold ND.askPre
  split
  · split
    · exact (rises_same (y := x.asks) rfl rfl).trans (rises_real _)
    · exact rises_same rfl rfl
  · exact Rises.refl x
theorem rises_chosen (x : ND) : Rises x x.chosen.1 := by
  unfold ND.chosen
  split
  · exact rises_real x
  · exact rises_same rfl rfl
theorem rises_vote (x : ND) (f : Int) (t : Nat) (nw : Bool) : Rises x (x.onVote f t nw).1 := by
  unfold ND.onVote
  split
  · rename_i h
    simp at h
    refine .inr ⟨rfl, ?_⟩
    rcases h.2.1.2 with h1 | h1
    · exact .inl h1
    · exact .inr h1.symm
  · exact Rises.refl x
theorem rises_onAsk (x : ND) (k f : Int) (t i p : Nat) : Rises x (x.onAsk k f t i p).1 := by
  unfold ND.onAsk
  split
  · split
    · exact (rises_follow x t (-1)).trans (rises_vote _ _ _ _)
    · exact rises_vote _ _ _ _
  · split <;> exact Rises.refl x
theorem rises_answer (x : ND) (k f : Int) (t : Nat) (ok : Bool) : Rises x (x.answer k f t ok).1 := by
  unfold ND.answer
  split
  · simp only []
    split
    · exact (rises_same (y := { x with yes := x.yes ++ [f] }) rfl rfl).trans (rises_chosen _)
    · exact rises_same rfl rfl
  · exact Rises.refl x
theorem rises_onAnswer (x : ND) (k f : Int) (t : Nat) (ok : Bool) : Rises x (x.onAnswer k f t ok).1 := by
  unfold ND.onAnswer
  split
  · split
    · exact (rises_follow x t (-1)).trans (rises_answer _ _ _ _ _)
    · exact rises_answer _ _ _ _ _
  · exact Rises.refl x
theorem rises_does (g : GP) (what : Int) (x : ND) (k : Nat) : Rises x (g.does what x k).1 := by
  unfold GP.does
  split
  · exact rises_pre x
  · split
    · exact rises_real x
    · split
      · split
        · exact (rises_onAsk x _ _ _ _ _).trans (rises_onAnswer _ _ _ _ _)
        · exact Rises.refl x
      · split
        · exact rises_same rfl rfl
        · split
          · exact rises_same rfl rfl
          · exact Rises.refl x
theorem rises_at (g : GP) (what who : Int) (k j : Nat) (x : ND) (hx : g.nodes[j]? = some x) : ∃ y, (g.at_ what who k).nodes[j]? = some y ∧ Rises x y := by
  unfold GP.at_
  split
  · split
    · rename_i x' hx'
      show ∃ y, (g.nodes.set who.toNat (g.does what x' k).1)[j]? = some y ∧ Rises x y
      rw [List.getElem?_set]
      split
      · next e =>
        subst e
        rw [hx] at hx'
        injection hx' with hx'
        subst hx'
        rw [if_pos (List.getElem?_eq_some_iff.1 hx).1]
        exact ⟨_, rfl, rises_does g what x k⟩
      · exact ⟨x, hx, Rises.refl x⟩
    · exact ⟨x, hx, Rises.refl x⟩
  · exact ⟨x, hx, Rises.refl x⟩
/-- TERMS NEVER FALL -/
theorem rises_play (g : GP) (what k : Int) (j : Nat) (x : ND) (hx : g.nodes[j]? = some x) : ∃ y, (g.play what k).nodes[j]? = some y ∧ Rises x y := by
  unfold GP.play
  split
  · split
    · split
      · exact rises_at g _ _ _ j x hx
      · exact ⟨x, hx, Rises.refl x⟩
    · exact ⟨x, hx, Rises.refl x⟩
  · exact rises_at g _ _ _ j x hx
end Go.Proofs.Ytbgdepaffgeinaa

/- A group of nodes that ask, in plain words: who votes votes for one. -/
namespace Go.Proofs.Ytbgdepaffgeinaa
open Go.RowKit
def Ms.yes (m : Ms) : Prop := m.kind = 2 ∧ m.ok = true
/-- what a node sends: of itself; a yes says how it votes -/
def Sends (x : ND) (r : ND × List Ms) : Prop := r.1.me = x.me ∧ ∀ m ∈ r.2, m.src = x.me ∧ (m.yes → m.term = r.1.term ∧ r.1.vote = m.dst ∧ 0 ≤ m.dst)
theorem sends_nil {x y : ND} (h : y.me = x.me) : Sends x (y, []) := ⟨h, fun m hm => by cases hm⟩
theorem sends_all (x y : ND) (z : ND) (k : Int) (t i p : Nat) (hy : y.me = x.me) (hz : z.me = x.me) : Sends x (y, z.toAll k t i p) := ⟨hy, fun m hm => by
  unfold ND.toAll at hm
  obtain ⟨d, -, rfl⟩ := List.mem_map.1 hm
  exact ⟨hz, fun h => by cases h.2⟩⟩
theorem sends_real (x : ND) : Sends x x.askReal := by
  unfold ND.askReal
  split
  · split
    · exact sends_nil rfl
    · exact sends_all x x.reals x _ _ _ _ rfl rfl
  · exact sends_nil rfl
theorem sends_pre (x : ND) : Sends x x.askPre := by
  unfold ND.askPre
  split
  · split
    · exact sends_real x.asks
    · exact sends_all x x.asks x _ _ _ _ rfl rfl
  · exact sends_nil rfl
theorem sends_chosen (x : ND) : Sends x x.chosen := by
  unfold ND.chosen
  split
  · exact sends_real x
  · exact sends_nil rfl
theorem sends_vote (x : ND) (f : Int) (t : Nat) (nw : Bool) (hf : 0 ≤ f) : Sends x (x.onVote f t nw) := by
  unfold ND.onVote
  split
  · exact ⟨rfl, fun m hm => by
      rw [List.mem_singleton.1 hm]
      exact ⟨rfl, fun _ => ⟨rfl, rfl, hf⟩⟩⟩
  · exact ⟨rfl, fun m hm => by
      rw [List.mem_singleton.1 hm]
      exact ⟨rfl, fun h => by cases h.2⟩⟩
theorem sends_onAsk (x : ND) (k f : Int) (t i p : Nat) (hf : 0 ≤ f) : Sends x (x.onAsk k f t i p) := by
  unfold ND.onAsk
  split
  · split
    · exact sends_vote (x.follow t (-1)) _ _ _ hf
    · exact sends_vote _ _ _ _ hf
  · split
    · refine ⟨rfl, fun m hm => ?_⟩
      have hm' := List.mem_singleton.1 hm
      subst hm'
      split
      · exact ⟨rfl, fun h => absurd h.1 (show ¬ (4 : Int) = 2 by decide)⟩
      · exact ⟨rfl, fun h => absurd h.1 (show ¬ (4 : Int) = 2 by decide)⟩
    · exact sends_nil rfl
theorem sends_answer (x : ND) (k f : Int) (t : Nat) (ok : Bool) : Sends x (x.answer k f t ok) := by
  unfold ND.answer
  split
  · simp only []
    split
    · exact sends_chosen { x with yes := x.yes ++ [f] }
    · exact sends_nil rfl
  · exact sends_nil rfl
theorem sends_onAnswer (x : ND) (k f : Int) (t : Nat) (ok : Bool) : Sends x (x.onAnswer k f t ok) := by
  unfold ND.onAnswer
  split
  · split
    · exact sends_answer (x.follow t (-1)) _ _ _ _
    · exact sends_answer _ _ _ _ _
  · exact sends_nil rfl
theorem onAsk_nil (x : ND) (k f : Int) (t i p : Nat) (h1 : k ≠ 1) (h3 : k ≠ 3) : x.onAsk k f t i p = (x, []) := by
  unfold ND.onAsk
  rw [if_neg h1, if_neg h3]
theorem onAnswer_nil (x : ND) (k f : Int) (t : Nat) (ok : Bool) (h : ¬ (k = 2 ∨ k = 4)) : x.onAnswer k f t ok = (x, []) := by
  unfold ND.onAnswer
  rw [if_neg h]
theorem sends_hear (x : ND) (m : Ms) (hf : 0 ≤ m.src) : Sends x (x.hear m) := by
  unfold ND.hear
  simp only []
  by_cases h : m.kind = 2 ∨ m.kind = 4
  · have e := onAsk_nil x m.kind m.src m.term m.index m.prev (by omega) (by omega)
    rw [e]
    exact sends_onAnswer x _ _ _ _
  · rw [onAnswer_nil _ _ _ _ _ h]
    simp only [List.append_nil]
    exact sends_onAsk x _ _ _ _ _ hf
theorem sends_does (g : GP) (what : Int) (x : ND) (k : Nat) (hg : ∀ m ∈ g.msgs, 0 ≤ m.src) : Sends x (g.does what x k) := by
  unfold GP.does
  split
  · exact sends_pre x
  · split
    · exact sends_real x
    · split
      · split
        · next m hm => exact sends_hear x _ (hg m (List.mem_of_getElem? hm))
        · exact sends_nil rfl
      · split
        · exact sends_nil rfl
        · split <;> exact sends_nil rfl
/-- the group's law -/
structure GP.Law (g : GP) : Prop where
  me : ∀ (i : Nat) (x : ND), g.nodes[i]? = some x → x.me = (i : Int)
  src : ∀ m ∈ g.msgs, 0 ≤ m.src ∧ m.src < g.nodes.length
  vote : ∀ m ∈ g.msgs, m.yes → ∀ (x : ND), g.nodes[m.src.toNat]? = some x → m.term < x.term ∨ (x.term = m.term ∧ x.vote = m.dst ∧ 0 ≤ m.dst)
  one : ∀ a ∈ g.msgs, ∀ b ∈ g.msgs, a.yes → b.yes → a.src = b.src → a.term = b.term → a.dst = b.dst
theorem law_done {g : GP} (h : g.Law) {i : Nat} {x : ND} (hx : g.nodes[i]? = some x) {r : ND × List Ms} (hs : Sends x r) (hr : Rises x r.1) : (g.done i r).Law := by
  have hil := (List.getElem?_eq_some_iff.1 hx).1
  have hme := h.me i x hx
  have hn : ∀ (j : Nat) (y : ND), (g.nodes.set i r.1)[j]? = some y → (j = i ∧ y = r.1) ∨ (j ≠ i ∧ g.nodes[j]? = some y) := fun j y hy => by
    rw [List.getElem?_set] at hy
    split at hy
    · next e =>
      subst e
      try rw [if_pos hil] at hy
      injection hy with hy
      exact .inl ⟨rfl, hy.symm⟩
    · next e => exact .inr ⟨fun e' => e e'.symm, hy⟩
  have hnew : ∀ m ∈ r.2, m.src.toNat = i := fun m hm => by rw [(hs.2 m hm).1, hme]; rfl
  refine ⟨fun j y hy => ?_, fun m hm => ?_, fun m hm hyes y hy => ?_, fun a ha b hb ya yb hsrc ht => ?_⟩
  · rcases hn j y hy with ⟨rfl, rfl⟩ | ⟨_, hy⟩
    · rw [hs.1]; exact hme
    · exact h.me j y hy
  · show 0 ≤ m.src ∧ m.src < ((g.nodes.set i r.1).length : Int)
    rw [List.length_set]
    rcases List.mem_append.1 hm with hm | hm
    · exact h.src m hm
    · rw [(hs.2 m hm).1, hme]
      omega
  · rcases List.mem_append.1 hm with hm | hm
    · rcases hn _ y hy with ⟨e, rfl⟩ | ⟨_, hy⟩
      · rcases h.vote m hm hyes x (by rw [e]; exact hx) with h1 | ⟨h1, h2, h3⟩
        · rcases hr with k | ⟨k, _⟩ <;> exact .inl (by omega)
        · rcases hr with k | ⟨k1, k2⟩
          · exact .inl (by omega)
          · rcases k2 with k2 | k2
            · omega
            · exact .inr ⟨by omega, by rw [k2, h2], h3⟩
      · exact h.vote m hm hyes y hy
    · have h1 := (hs.2 m hm).2 hyes
      rcases hn _ y hy with ⟨_, rfl⟩ | ⟨e, _⟩
      · exact .inr ⟨h1.1.symm, h1.2.1, h1.2.2⟩
      · exact absurd (hnew m hm) e
  · have key : ∀ a ∈ r.2, ∀ b ∈ g.msgs, a.yes → b.yes → a.src = b.src → a.term = b.term → a.dst = b.dst := fun a ha b hb ya yb hsrc ht => by
      have h1 := (hs.2 a ha).2 ya
      have hb' := h.vote b hb yb x (by rw [← hsrc, hnew a ha]; exact hx)
      rcases hb' with h2 | ⟨h2, h3, h4⟩
      · rcases hr with k | ⟨k, _⟩ <;> omega
      · rcases hr with k | ⟨k1, k2⟩
        · omega
        · rcases k2 with k2 | k2
          · omega
          · rw [← h1.2.1, k2, h3]
    rcases List.mem_append.1 ha with ha | ha
    · rcases List.mem_append.1 hb with hb | hb
      · exact h.one a ha b hb ya yb hsrc ht
      · exact (key b hb a ha yb ya hsrc.symm ht.symm).symm
    · rcases List.mem_append.1 hb with hb | hb
      · exact key a ha b hb ya yb hsrc ht
      · rw [← ((hs.2 a ha).2 ya).2.1, ← ((hs.2 b hb).2 yb).2.1]
theorem law_at {g : GP} (h : g.Law) (what who : Int) (k : Nat) : (g.at_ what who k).Law := by
  unfold GP.at_
  split
  · split
    · next x hx => exact law_done h hx (sends_does g what x k fun m hm => (h.src m hm).1) (rises_does g what x k)
    · exact h
  · exact h
/-- WHO VOTES VOTES FOR ONE -/
theorem law_play {g : GP} (h : g.Law) (what k : Int) : (g.play what k).Law := by
  unfold GP.play
  split
  · split
    · split
      · exact law_at h _ _ _
      · exact h
    · exact h
  · exact law_at h _ _ _
end Go.Proofs.Ytbgdepaffgeinaa

/- A group of nodes that ask, in plain words: how large its numbers get. -/
namespace Go.Proofs.Ytbgdepaffgeinaa
open Go.RowKit
structure ND.Bd (x : ND) (t e y : Nat) : Prop where
  base : x.base = 0
  conf : x.conf.length ≤ 5
  term : x.term ≤ t
  es : x.es.length ≤ e
  yes : x.yes.length ≤ y
theorem ND.Bd.mono {x : ND} {t e y t' e' y' : Nat} (h : x.Bd t e y) (h1 : t ≤ t') (h2 : e ≤ e') (h3 : y ≤ y') : x.Bd t' e' y' := ⟨h.base, h.conf, Nat.le_trans h.term h1, Nat.le_trans h.es h2, Nat.le_trans h.yes h3⟩
/-- a node and what it sends -/
def BdR (t e y m : Nat) (r : ND × List Ms) : Prop := r.1.Bd t e y ∧ ∀ a ∈ r.2, a.term ≤ m
theorem BdR.mono {t e y m t' e' y' m' : Nat} {r : ND × List Ms} (h : BdR t e y m r) (h1 : t ≤ t') (h2 : e ≤ e') (h3 : y ≤ y') (h4 : m ≤ m') : BdR t' e' y' m' r := ⟨h.1.mono h1 h2 h3, fun a ha => Nat.le_trans (h.2 a ha) h4⟩
theorem bdr_nil {x : ND} {t e y m : Nat} (h : x.Bd t e y) : BdR t e y m (x, []) := ⟨h, fun a ha => by cases ha⟩
variable {x : ND} {t e y : Nat}
theorem bd_follow (h : x.Bd t e y) {m t' : Nat} (l : Int) (hm : m ≤ t') (ht : t ≤ t') : (x.follow m l).Bd t' e y := by
  refine ⟨h.base, h.conf, ?_, h.es, Nat.zero_le _⟩
  show (if x.term < m then m else x.term) ≤ t'
  have := h.term
  split <;> omega
theorem bd_lead (h : x.Bd t e y) : x.toLead.Bd t (e + 1) y := ⟨h.base, h.conf, h.term, by show (x.es ++ [tent x.term]).length ≤ e + 1; rw [List.length_append]; have := h.es; simp; omega, Nat.zero_le _⟩
theorem bdr_all {z : ND} (hz : z.Bd t e y) (w : ND) (k : Int) {q i p m : Nat} (hq : q ≤ m) : BdR t e y m (z, w.toAll k q i p) := ⟨hz, fun a ha => by
  unfold ND.toAll at ha
  obtain ⟨d, -, rfl⟩ := List.mem_map.1 ha
  exact hq⟩
theorem bd_reals (h : x.Bd t e y) (hy : 1 ≤ y) : x.reals.Bd (t + 1) e y := ⟨h.base, h.conf, by show x.term + 1 ≤ t + 1; have := h.term; omega, h.es, hy⟩
theorem bd_asks (h : x.Bd t e y) (hy : 1 ≤ y) : x.asks.Bd t e y := ⟨h.base, h.conf, h.term, h.es, hy⟩
theorem bdr_real (h : x.Bd t e y) (hy : 1 ≤ y) : BdR (t + 1) (e + 1) y (t + 1) x.askReal := by
  unfold ND.askReal
  have ht := h.term
  split
  · split
    · exact bdr_nil (bd_lead (bd_reals h hy))
    · exact bdr_all ((bd_reals h hy).mono (Nat.le_refl _) (by omega) (Nat.le_refl _)) x 1 (by omega)
  · exact bdr_nil (h.mono (by omega) (by omega) (Nat.le_refl _))
theorem bdr_pre (h : x.Bd t e y) (hy : 1 ≤ y) : BdR (t + 1) (e + 1) y (t + 1) x.askPre := by
  unfold ND.askPre
  have ht := h.term
  split
  · split
    · exact bdr_real (bd_asks h hy) hy
    · exact bdr_all ((bd_asks h hy).mono (by omega) (by omega) (Nat.le_refl _)) x 3 (by omega)
  · exact bdr_nil (h.mono (by omega) (by omega) (Nat.le_refl _))
theorem bdr_chosen (h : x.Bd t e y) (hy : 1 ≤ y) : BdR (t + 1) (e + 1) y (t + 1) x.chosen := by
  unfold ND.chosen
  split
  · exact bdr_real h hy
  · exact bdr_nil ((bd_lead h).mono (by omega) (by omega) (Nat.le_refl _))
theorem bdr_vote (h : x.Bd t e y) (f : Int) (q : Nat) (nw : Bool) : BdR t e y t (x.onVote f q nw) := by
  unfold ND.onVote
  split
  · exact ⟨⟨h.base, h.conf, h.term, h.es, h.yes⟩, fun a ha => by rw [List.mem_singleton.1 ha]; exact h.term⟩
  · exact ⟨h, fun a ha => by rw [List.mem_singleton.1 ha]; exact h.term⟩
theorem bdr_onAsk (h : x.Bd t e y) (k f : Int) {q i p t' : Nat} (hq : q ≤ t') (ht : t ≤ t') : BdR t' e y t' (x.onAsk k f q i p) := by
  have h' := h.mono ht (Nat.le_refl _) (Nat.le_refl _)
  unfold ND.onAsk
  split
  · split
    · exact bdr_vote (bd_follow h (-1) hq ht) _ _ _
    · exact bdr_vote h' _ _ _
  · split
    · refine ⟨h', fun a ha => ?_⟩
      rw [List.mem_singleton.1 ha]
      split
      · exact hq
      · exact h'.term
    · exact bdr_nil h'
theorem bdr_answer (h : x.Bd t e y) (k f : Int) (q : Nat) (ok : Bool) : BdR (t + 1) (e + 1) (y + 1) (t + 1) (x.answer k f q ok) := by
  unfold ND.answer
  split
  · have h1 : ({ x with yes := x.yes ++ [f] } : ND).Bd t e (y + 1) := ⟨h.base, h.conf, h.term, h.es, by show (x.yes ++ [f]).length ≤ y + 1; rw [List.length_append]; have := h.yes; simp; omega⟩
    simp only []
    split
    · exact bdr_chosen h1 (by omega)
    · exact bdr_nil (h1.mono (by omega) (by omega) (Nat.le_refl _))
  · exact bdr_nil (h.mono (by omega) (by omega) (by omega))
theorem bdr_onAnswer (h : x.Bd t e y) (k f : Int) {q t' : Nat} (ok : Bool) (hq : q ≤ t') (ht : t ≤ t') : BdR (t' + 1) (e + 1) (y + 1) (t' + 1) (x.onAnswer k f q ok) := by
  have h' := h.mono ht (Nat.le_refl _) (Nat.le_refl _)
  unfold ND.onAnswer
  split
  · split
    · exact bdr_answer (bd_follow h (-1) hq ht) _ _ _ _
    · exact bdr_answer h' _ _ _ _
  · exact bdr_nil (h'.mono (by omega) (by omega) (by omega))
theorem bdr_hear (h : x.Bd t e y) (m : Ms) {t' : Nat} (hq : m.term ≤ t') (ht : t ≤ t') : BdR (t' + 1) (e + 1) (y + 1) (t' + 1) (x.hear m) := by
  unfold ND.hear
  simp only []
  have h1 := bdr_onAsk h m.kind m.src (q := m.term) (i := m.index) (p := m.prev) hq ht
  have h2 := bdr_onAnswer h1.1 m.kind m.src m.ok hq (Nat.le_refl t')
  refine ⟨h2.1, fun a ha => ?_⟩
  rcases List.mem_append.1 ha with ha | ha
  · have := h1.2 a ha; omega
  · exact h2.2 a ha
/-- behind c things that were done -/
structure GP.Bd (g : GP) (c : Nat) : Prop where
  node : ∀ x ∈ g.nodes, x.Bd (99 + 2 * c) (6 + c) (1 + c)
  msg : ∀ m ∈ g.msgs, m.term ≤ 100 + 2 * c
  few : g.nodes.length ≤ 5
theorem GP.Bd.mono {g : GP} {c d : Nat} (h : g.Bd c) (hd : c ≤ d) : g.Bd d := ⟨fun x hx => (h.node x hx).mono (by omega) (by omega) (by omega), fun m hm => by have := h.msg m hm; omega, h.few⟩
theorem bdr_does {g : GP} {c : Nat} (h : g.Bd c) {x : ND} (hx : x ∈ g.nodes) (what : Int) (k : Nat) : BdR (99 + 2 * (c + 1)) (6 + (c + 1)) (1 + (c + 1)) (100 + 2 * (c + 1)) (g.does what x k) := by
  have hb := h.node x hx
  have stay : ∀ {z : ND}, z.base = x.base → z.conf = x.conf → z.term = x.term → z.es = x.es → z.yes = x.yes → BdR (99 + 2 * (c + 1)) (6 + (c + 1)) (1 + (c + 1)) (100 + 2 * (c + 1)) (z, []) := fun h1 h2 h3 h4 h5 =>
    bdr_nil ⟨h1 ▸ hb.base, h2 ▸ hb.conf, by rw [h3]; have := hb.term; omega, by rw [h4]; have := hb.es; omega, by rw [h5]; have := hb.yes; omega⟩
  unfold GP.does
  split
  · exact (bdr_pre hb (by omega)).mono (by omega) (by omega) (by omega) (by omega)
  · split
    · exact (bdr_real hb (by omega)).mono (by omega) (by omega) (by omega) (by omega)
    · split
      · split
        · next m hm => exact (bdr_hear hb m (t' := 100 + 2 * c) (h.msg m (List.mem_of_getElem? hm)) (by omega)).mono (by omega) (by omega) (by omega) (by omega)
        · exact stay rfl rfl rfl rfl rfl
      · split
        · exact stay rfl rfl rfl rfl rfl
        · split <;> exact stay rfl rfl rfl rfl rfl
theorem bd_done {g : GP} {c : Nat} (h : g.Bd c) (i : Nat) {r : ND × List Ms} (hr : BdR (99 + 2 * (c + 1)) (6 + (c + 1)) (1 + (c + 1)) (100 + 2 * (c + 1)) r) : (g.done i r).Bd (c + 1) := by
  have h' := h.mono (show c ≤ c + 1 by omega)
  refine ⟨fun x hx => ?_, fun m hm => ?_, by show (g.nodes.set i r.1).length ≤ 5; rw [List.length_set]; exact h.few⟩
  · rcases List.mem_or_eq_of_mem_set hx with hx | hx
    · exact h'.node x hx
    · rw [hx]; exact hr.1
  · rcases List.mem_append.1 hm with hm | hm
    · exact h'.msg m hm
    · exact hr.2 m hm
theorem bd_at {g : GP} {c : Nat} (h : g.Bd c) (what who : Int) (k : Nat) : (g.at_ what who k).Bd (c + 1) := by
  unfold GP.at_
  split
  · split
    · next x hx => exact bd_done h _ (bdr_does h (List.mem_of_getElem? hx) what k)
    · exact h.mono (by omega)
  · exact h.mono (by omega)
theorem bd_play {g : GP} {c : Nat} (h : g.Bd c) (what k : Int) : (g.play what k).Bd (c + 1) := by
  unfold GP.play
  split
  · split
    · split
      · exact bd_at h _ _ _
      · exact h.mono (by omega)
    · exact h.mono (by omega)
  · exact bd_at h _ _ _
end Go.Proofs.Ytbgdepaffgeinaa

/- A group of nodes that ask, in plain words: how many messages there get to be. -/
namespace Go.Proofs.Ytbgdepaffgeinaa
open Go.RowKit
theorem len_all (x : ND) (k : Int) (t i p : Nat) : (x.toAll k t i p).length ≤ x.conf.length := by
  unfold ND.toAll ND.others
  rw [List.length_map]
  exact List.length_filter_le _ _
theorem len_real (x : ND) : x.askReal.2.length ≤ x.conf.length := by
  unfold ND.askReal
  split
  · split
    · exact Nat.zero_le _
    · exact len_all x _ _ _ _
  · exact Nat.zero_le _
theorem len_pre (x : ND) : x.askPre.2.length ≤ x.conf.length := by
  unfold ND.askPre
  split
  · split
    · exact len_real x.asks
    · exact len_all x _ _ _ _
  · exact Nat.zero_le _
theorem len_chosen (x : ND) : x.chosen.2.length ≤ x.conf.length := by
  unfold ND.chosen
  split
  · exact len_real x
  · exact Nat.zero_le _
theorem len_vote (x : ND) (f : Int) (t : Nat) (nw : Bool) : (x.onVote f t nw).2.length ≤ 1 ∧ (x.onVote f t nw).1.conf = x.conf := by
  unfold ND.onVote
  split <;> exact ⟨Nat.le_refl _, rfl⟩
theorem len_onAsk (x : ND) (k f : Int) (t i p : Nat) : (x.onAsk k f t i p).2.length ≤ 1 ∧ (x.onAsk k f t i p).1.conf = x.conf := by
  unfold ND.onAsk
  split
  · split
    · exact len_vote (x.follow t (-1)) _ _ _
    · exact len_vote x _ _ _
  · split
    · exact ⟨Nat.le_refl _, rfl⟩
    · exact ⟨Nat.zero_le _, rfl⟩
theorem len_answer (x : ND) (k f : Int) (t : Nat) (ok : Bool) : (x.answer k f t ok).2.length ≤ x.conf.length := by
  unfold ND.answer
  split
  · simp only []
    split
    · exact len_chosen { x with yes := x.yes ++ [f] }
    · exact Nat.zero_le _
  · exact Nat.zero_le _
theorem len_onAnswer (x : ND) (k f : Int) (t : Nat) (ok : Bool) : (x.onAnswer k f t ok).2.length ≤ x.conf.length := by
  unfold ND.onAnswer
  split
  · split
    · exact len_answer (x.follow t (-1)) _ _ _ _
    · exact len_answer x _ _ _ _
  · exact Nat.zero_le _
theorem len_hear (x : ND) (m : Ms) : (x.hear m).2.length ≤ 1 + x.conf.length := by
  unfold ND.hear
  simp only []
  have h1 := len_onAsk x m.kind m.src m.term m.index m.prev
  have h2 := len_onAnswer (x.onAsk m.kind m.src m.term m.index m.prev).1 m.kind m.src m.term m.ok
  rw [h1.2] at h2
  rw [List.length_append]
  omega
structure GP.Fine (g : GP) (c : Nat) : Prop where
  bd : g.Bd c
  law : g.Law
  msgs : g.msgs.length ≤ 6 * c
  terms : g.terms.length ≤ c
  leads : g.leads.length ≤ c
theorem len_does {g : GP} {c : Nat} (h : g.Bd c) {x : ND} (hx : x ∈ g.nodes) (what : Int) (k : Nat) : (g.does what x k).2.length ≤ 6 := by
  have hc := (h.node x hx).conf
  unfold GP.does
  split
  · have := len_pre x; omega
  · split
    · have := len_real x; omega
    · split
      · split
        · next m hm => have := len_hear x m; omega
        · exact Nat.zero_le _
      · split
        · exact Nat.zero_le _
        · split <;> exact Nat.zero_le _
theorem len_at {g : GP} {c : Nat} (h : g.Bd c) (what who : Int) (k : Nat) : (g.at_ what who k).msgs.length ≤ g.msgs.length + 6 ∧ (g.at_ what who k).terms.length ≤ g.terms.length + 1 ∧ (g.at_ what who k).leads.length ≤ g.leads.length + 1 := by
  unfold GP.at_
  split
  · split
    · next x hx =>
      have := len_does h (List.mem_of_getElem? hx) what k
      unfold GP.done
      refine ⟨by simp; omega, ?_, ?_⟩
      · dsimp only; split <;> simp
      · dsimp only; split <;> simp
    · exact ⟨by omega, by omega, by omega⟩
  · exact ⟨by omega, by omega, by omega⟩
theorem fine_play {g : GP} {c : Nat} (h : g.Fine c) (what k : Int) : (g.play what k).Fine (c + 1) := by
  have hl : (g.play what k).msgs.length ≤ g.msgs.length + 6 ∧ (g.play what k).terms.length ≤ g.terms.length + 1 ∧ (g.play what k).leads.length ≤ g.leads.length + 1 := by
    unfold GP.play
    split
    · split
      · split
        · exact len_at h.bd _ _ _
        · exact ⟨by omega, by omega, by omega⟩
      · exact ⟨by omega, by omega, by omega⟩
    · exact len_at h.bd _ _ _
  have h1 := h.msgs
  have h2 := h.terms
  have h3 := h.leads
  exact ⟨bd_play h.bd what k, law_play h.law what k, by omega, by omega, by omega⟩
theorem fine_ok {g : GP} {c : Nat} (h : g.Fine c) (hc : c ≤ 250) {i : Nat} {x : ND} (hi : g.nodes[i]? = some x) : x.base < 1152921504606846976 ∧ x.es.length ≤ 900 ∧ x.conf.length ≤ 1000 ∧ 0 ≤ x.me ∧ x.me < 16 ∧ x.term < 4611686018427387904 ∧ x.yes.length ≤ 10000 := by
  have hb := h.bd.node x (List.mem_of_getElem? hi)
  have hm := h.law.me i x hi
  have hl := (List.getElem?_eq_some_iff.1 hi).1
  have hf := h.bd.few
  have h1 := hb.base
  have h2 := hb.es
  have h3 := hb.conf
  have h4 := hb.term
  have h5 := hb.yes
  exact ⟨by omega, by omega, by omega, by omega, by omega, by omega, by omega⟩
end Go.Proofs.Ytbgdepaffgeinaa
