/- A group of nodes that ask, in plain words: terms never fall. -/
import Derived.Test.YtbgdepaffgeinaaPElect
namespace Go.Proofs.Ytbgdepaffgeinaa
open Go.RowKit
structure GP where
  nodes : List ND
  msgs : List Ms
  terms : List Nat
  leads : List Int
/-- what comes to node x -/
def ND.hear (x : ND) (m : Ms) : ND × List Ms :=
  let a := x.onAsk m.kind m.src m.term m.index m.prev
  let b := a.1.onAnswer m.kind m.src m.term m.ok
  (b.1, a.2 ++ b.2)
def GP.done (g : GP) (i : Nat) (r : ND × List Ms) : GP := ⟨g.nodes.set i r.1, g.msgs ++ r.2, if r.1.role = 3 then g.terms ++ [r.1.term] else g.terms, if r.1.role = 3 then g.leads ++ [(i : Int)] else g.leads⟩
def GP.does (g : GP) (what : Int) (x : ND) (k : Nat) : ND × List Ms :=
  if what = 1 then x.askPre else if what = 2 then x.askReal else if what = 3 then (match g.msgs[k]? with | some m => x.hear m | none => (x, []))
  else if what = 4 then ({ x with heard := true }, []) else if what = 5 then ({ x with heard := false }, []) else (x, [])
def GP.at_ (g : GP) (what : Int) (who : Int) (k : Nat) : GP :=
  if 0 ≤ who ∧ who < g.nodes.length then (match g.nodes[who.toNat]? with | some x => g.done who.toNat (g.does what x k) | none => g) else g
def GP.play (g : GP) (what k : Int) : GP :=
  if what = 3 then (if 0 ≤ k ∧ k < g.msgs.length then (match g.msgs[k.toNat]? with | some m => g.at_ what m.dst k.toNat | none => g) else g)
  else g.at_ what k k.toNat
/-- a node's term does not fall, and in one term its vote stays -/
def Rises (x y : ND) : Prop := x.term < y.term ∨ (x.term = y.term ∧ (x.vote = -1 ∨ y.vote = x.vote))
theorem Rises.refl (x : ND) : Rises x x := .inr ⟨rfl, .inr rfl⟩
theorem Rises.trans {x y z : ND} (h : Rises x y) (k : Rises y z) : Rises x z := by
  unfold Rises at *
  rcases h with h | ⟨h1, h2⟩
  · rcases k with k | ⟨k1, _⟩ <;> exact .inl (by omega)
  · rcases k with k | ⟨k1, k2⟩
    · exact .inl (by omega)
    · refine .inr ⟨by omega, ?_⟩
      rcases h2 with h2 | h2
      · exact .inl h2
      · rcases k2 with k2 | k2
        · exact .inl (by rw [← h2]; exact k2)
        · exact .inr (by rw [k2, h2])
theorem rises_follow (x : ND) (t : Nat) (l : Int) : Rises x (x.follow t l) := by
  unfold Rises ND.follow
  by_cases h : x.term < t
  · exact .inl (by simp [h])
  · exact .inr ⟨by simp [h], .inr (by simp [h])⟩
theorem rises_same {x y : ND} (h1 : y.term = x.term) (h2 : y.vote = x.vote) : Rises x y := .inr ⟨h1.symm, .inr h2⟩
theorem rises_real (x : ND) : Rises x x.askReal.1 := by
  unfold ND.askReal
  split
  · split
    · exact .inl (by show x.term < x.term + 1; omega)
    · exact .inl (by show x.term < x.term + 1; omega)
  · exact Rises.refl x
theorem rises_pre (x : ND) : Rises x x.askPre.1 := by
  unfold ND.askPre
  split
  · split
    · exact (rises_same (y := x.asks) rfl rfl).trans (rises_real _)
    · exact rises_same rfl rfl
  · exact Rises.refl x
theorem rises_chosen (x : ND) : Rises x x.chosen.1 := by
  unfold ND.chosen
  split
  · exact rises_real x
  · exact rises_same rfl rfl
theorem rises_vote (x : ND) (f : Int) (t : Nat) (nw : Bool) : Rises x (x.onVote f t nw).1 := by
  unfold ND.onVote
  split
  · rename_i h
    simp at h
    refine .inr ⟨rfl, ?_⟩
    rcases h.2.1.2 with h1 | h1
    · exact .inl h1
    · exact .inr h1.symm
  · exact Rises.refl x
theorem rises_onAsk (x : ND) (k f : Int) (t i p : Nat) : Rises x (x.onAsk k f t i p).1 := by
  unfold ND.onAsk
  split
  · split
    · exact (rises_follow x t (-1)).trans (rises_vote _ _ _ _)
    · exact rises_vote _ _ _ _
  · split <;> exact Rises.refl x
theorem rises_answer (x : ND) (k f : Int) (t : Nat) (ok : Bool) : Rises x (x.answer k f t ok).1 := by
  unfold ND.answer
  split
  · simp only []
    split
    · exact (rises_same (y := { x with yes := x.yes ++ [f] }) rfl rfl).trans (rises_chosen _)
    · exact rises_same rfl rfl
  · exact Rises.refl x
theorem rises_onAnswer (x : ND) (k f : Int) (t : Nat) (ok : Bool) : Rises x (x.onAnswer k f t ok).1 := by
  unfold ND.onAnswer
  split
  · split
    · exact (rises_follow x t (-1)).trans (rises_answer _ _ _ _ _)
    · exact rises_answer _ _ _ _ _
  · exact Rises.refl x
theorem rises_does (g : GP) (what : Int) (x : ND) (k : Nat) : Rises x (g.does what x k).1 := by
  unfold GP.does
  split
  · exact rises_pre x
  · split
    · exact rises_real x
    · split
      · split
        · exact (rises_onAsk x _ _ _ _ _).trans (rises_onAnswer _ _ _ _ _)
        · exact Rises.refl x
      · split
        · exact rises_same rfl rfl
        · split
          · exact rises_same rfl rfl
          · exact Rises.refl x
theorem rises_at (g : GP) (what who : Int) (k j : Nat) (x : ND) (hx : g.nodes[j]? = some x) : ∃ y, (g.at_ what who k).nodes[j]? = some y ∧ Rises x y := by
  unfold GP.at_
  split
  · split
    · rename_i x' hx'
      show ∃ y, (g.nodes.set who.toNat (g.does what x' k).1)[j]? = some y ∧ Rises x y
      rw [List.getElem?_set]
      split
      · next e =>
        subst e
        rw [hx] at hx'
        injection hx' with hx'
        subst hx'
        rw [if_pos (List.getElem?_eq_some_iff.1 hx).1]
        exact ⟨_, rfl, rises_does g what x k⟩
      · exact ⟨x, hx, Rises.refl x⟩
    · exact ⟨x, hx, Rises.refl x⟩
  · exact ⟨x, hx, Rises.refl x⟩
/-- TERMS NEVER FALL -/
theorem rises_play (g : GP) (what k : Int) (j : Nat) (x : ND) (hx : g.nodes[j]? = some x) : ∃ y, (g.play what k).nodes[j]? = some y ∧ Rises x y := by
  unfold GP.play
  split
  · split
    · split
      · exact rises_at g _ _ _ j x hx
      · exact ⟨x, hx, Rises.refl x⟩
    · exact ⟨x, hx, Rises.refl x⟩
  · exact rises_at g _ _ _ j x hx
end Go.Proofs.Ytbgdepaffgeinaa
