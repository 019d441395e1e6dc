/- The clocks beside the document's. -/
import Derived.Test.YtcocakbopbehjaaClkRef6
import Derived.Test.YtcocakbopbehjaaClkRes
namespace Go.Proofs.Ytcocakbopbehjaa
open Go.RowKit
structure Twin (ns : List PN) (N : List Nat) (P : List Bool) (l : List RT) : Prop where
  now : N = ns.map PN.now
  pz : P = ns.map PN.paused
  like : ∀ (i : Nat) (p : PN), ns[i]? = some p → Like (i : Int) p l
section
variable {ns : List PN} {N : List Nat} {P : List Bool} {l l' : List RT} {i : Nat} {p : PN}
theorem Twin.nowAt (h : Twin ns N P l) (hi : ns[i]? = some p) : N[i]? = some p.now := by rw [h.now, List.getElem?_map, hi]; rfl
theorem Twin.pzAt (h : Twin ns N P l) (hi : ns[i]? = some p) : P[i]? = some p.paused := by rw [h.pz, List.getElem?_map, hi]; rfl
theorem Twin.len (h : Twin ns N P l) : N.length = ns.length := by rw [h.now, List.length_map]
theorem set_eq_of {α : Type} {l : List α} {i : Nat} {x : α} (h : l[i]? = some x) : l.set i x = l := by
  obtain ⟨h1, h2⟩ := List.getElem?_eq_some_iff.1 h
  subst h2
  exact List.set_getElem_self h1
theorem Twin.turn (h : Twin ns N P l) (hi : ns[i]? = some p) {p' : PN} (hL : Like (i : Int) p' l') (ho : ∀ (j : Nat) (q : PN), j ≠ i → ns[j]? = some q → Like (j : Int) q l') : Twin (ns.set i p') (N.set i p'.now) (P.set i p'.paused) l' := by
  refine ⟨by rw [h.now, List.map_set], by rw [h.pz, List.map_set], fun j q hj => ?_⟩
  rw [List.getElem?_set] at hj
  have hil := (List.getElem?_eq_some_iff.1 hi).1
  split at hj
  · next hij =>
    subst hij
    try rw [if_pos hil] at hj
    injection hj with hj
    subst hj
    exact hL
  · next hij => exact ho j q (fun e => hij e.symm) hj
theorem Twin.tick (h : Twin ns N P l) (hi : ns[i]? = some p) (t : Nat) : Twin (ns.set i ⟨t, p.ts, p.paused⟩) (N.set i t) P l := by
  have := h.turn hi (p' := ⟨t, p.ts, p.paused⟩) ((h.like i p hi).same rfl) fun j q _ hq => h.like j q hq
  rwa [set_eq_of (h.pzAt hi)] at this
theorem Twin.pause (h : Twin ns N P l) (hi : ns[i]? = some p) (b : Bool) : Twin (ns.set i ⟨p.now, p.ts, b⟩) N (P.set i b) l := by
  have := h.turn hi (p' := ⟨p.now, p.ts, b⟩) ((h.like i p hi).same rfl) fun j q _ hq => h.like j q hq
  rwa [set_eq_of (h.nowAt hi)] at this
theorem Twin.there (h : Twin ns N P l) (hi : ns[i]? = some p) (id : Int) : l.any (isT (i : Int) id) = decide (fidx id p.ts < p.ts.length) := by
  rw [Bool.eq_iff_iff, decide_eq_true_eq, fidx_lt, (h.like i p hi).mem, List.any_eq_true]
  constructor
  · rintro ⟨t, h1, h2⟩; exact ⟨t, h1, of_decide_eq_true h2⟩
  · rintro ⟨t, h1, h2⟩; exact ⟨t, h1, decide_eq_true h2⟩
theorem Twin.set (h : Twin ns N P l) (hi : ns[i]? = some p) {id : Int} {a : Nat} {p' : PN} {E : Nat} (hs : p.set id a = (p', E)) : ∃ l', rsetF i id a p.now l = (l', E) ∧ Twin (ns.set i p') N P l' ∧ l'.length ≤ l.length + 1 := by
  have hth := h.there hi id
  have hlk := h.like i p hi
  have hmany := hlk.many
  have hkeep : Twin (ns.set i p) N P l := by rw [set_eq_of hi]; exact h
  have hput : ∀ p2 : PN, p2.now = p.now → p2.paused = p.paused → Like (i : Int) p2 (rwo (i : Int) id l ++ [((i : Int), id, p.now + a)]) → Twin (ns.set i p2) N P (rwo (i : Int) id l ++ [((i : Int), id, p.now + a)]) := fun p2 e1 e2 hL => by
    have := h.turn hi hL fun j q hj hq => (h.like j q hq).other (fun e => hj (by omega)) id (p.now + a)
    rwa [e1, e2, set_eq_of (h.nowAt hi), set_eq_of (h.pzAt hi)] at this
  have hlen2 : (rwo (i : Int) id l ++ [((i : Int), id, p.now + a)]).length ≤ l.length + 1 := by
    rw [List.length_append]
    have := rwo_len (i : Int) id l
    simp
    exact this
  unfold PN.set at hs
  unfold rsetF
  by_cases h1 : 18446744073709551616 ≤ p.now + a
  · rw [if_pos h1] at hs ⊢
    injection hs with e1 e2
    subst e1 e2
    exact ⟨l, rfl, hkeep, Nat.le_succ _⟩
  · rw [if_neg h1] at hs ⊢
    by_cases h2 : fidx id p.ts < p.ts.length
    · rw [if_pos h2] at hs
      injection hs with e1 e2
      subst e1 e2
      rw [if_neg (by rw [hth, decide_eq_true h2]; simp)]
      exact ⟨_, rfl, hput _ rfl rfl (hlk.put h2 _ _ _), hlen2⟩
    · rw [if_neg h2] at hs
      by_cases h3 : 40 ≤ p.ts.length
      · rw [if_pos h3] at hs
        injection hs with e1 e2
        subst e1 e2
        rw [if_pos ⟨by rw [hth, decide_eq_false h2], by rw [← hmany]; exact h3⟩]
        exact ⟨l, rfl, hkeep, Nat.le_succ _⟩
      · rw [if_neg h3] at hs
        injection hs with e1 e2
        subst e1 e2
        rw [if_neg (fun e => h3 (by rw [hmany]; exact e.2))]
        exact ⟨_, rfl, hput _ rfl rfl (hlk.add h2 _ _ _), hlen2⟩
theorem Twin.stop (h : Twin ns N P l) (hi : ns[i]? = some p) {id : Int} {p' : PN} {E : Nat} (hs : p.stop id = (p', E)) : ∃ l', rstopF i id l = (l', E) ∧ Twin (ns.set i p') N P l' ∧ l'.length ≤ l.length := by
  have hth := h.there hi id
  have hlk := h.like i p hi
  unfold PN.stop at hs
  unfold rstopF
  by_cases h2 : fidx id p.ts < p.ts.length
  · rw [if_pos h2] at hs
    injection hs with e1 e2
    subst e1 e2
    rw [if_pos (by rw [hth, decide_eq_true h2])]
    refine ⟨_, rfl, ?_, rwo_len _ _ _⟩
    have := h.turn hi (hlk.del h2 p.now p.paused) fun j q hj hq => (h.like j q hq).other' (fun e => hj (by omega)) id
    rwa [set_eq_of (h.nowAt hi), set_eq_of (h.pzAt hi)] at this
  · rw [if_neg h2] at hs
    injection hs with e1 e2
    subst e1 e2
    rw [if_neg (by rw [hth, decide_eq_false h2]; simp)]
    exact ⟨l, rfl, by rw [set_eq_of hi]; exact h, Nat.le_refl _⟩
theorem Twin.due (h : Twin ns N P l) (hi : ns[i]? = some p) (h0 : rlate (i : Int) p.now l' = []) {out : List Tm} (hD : DI (i : Int) p.now l l' out) : Twin (ns.set i ⟨p.now, rests p, p.paused⟩) N P l' := by
  have := h.turn hi (p' := ⟨p.now, rests p, p.paused⟩) ((h.like i p hi).due h0 hD.rest p.paused) fun j q hj hq => by
    have h1 := h.like j q hq
    have h2 := hD.oth (j : Int) (fun e => hj (by omega))
    exact ⟨by rw [h2]; exact h1.perm, h1.nd⟩
  rwa [set_eq_of (h.nowAt hi), set_eq_of (h.pzAt hi)] at this
theorem Twin.nodup (h : Twin ns N P l) (hi : ns[i]? = some p) : ((rsel (i : Int) l).map (·.1)).Nodup := by
  have h1 := h.like i p hi
  exact ((h1.perm.map (·.1)).nodup_iff).1 h1.nd
end
/-- what holds at the head of the law's loop -/
structure Both (w wr : World) (n g1 g2 : Nat) (vn vp : Value) (k : Nat) (O : Nat → Prop) (ns : List PN) (vt : Value) (N : List Nat) (P : List Bool) (l : List RT) : Prop where
  K : ClkAt w.heap.size wr O g1 ns
  R : RS wr g2 vn vp vt N P l
  T : Twin ns N P l
  apart : ∀ b, O b → ¬ ROwn g2 vn vp vt b
  low : ∀ b, ROwn g2 vn vp vt b → w.heap.size ≤ b
  nn : ns.length = n
  len : l.length ≤ k
  bel : Below w.heap.size w wr
section
variable {w wr w3 w4 : World} {n g1 g2 k : Nat} {vn vp vt vt' : Value} {O O3 : Nat → Prop} {ns ns3 : List PN} {N N' : List Nat} {P P' : List Bool} {l l' : List RT}
theorem Both.alloc (h : Both w wr n g1 g2 vn vp k O ns vt N P l) (o : Obj) : Both w (wr.alloc o) n g1 g2 vn vp k O ns vt N P l :=
  ⟨h.K.alloc o, h.R.alloc o, h.T, h.apart, h.low, h.nn, h.len, h.bel.alloc h.bel.size o⟩
theorem Both.drewN (h : Both w wr n g1 g2 vn vp k O ns vt N P l) (q : Nat) : Both w (wr.drewN q) n g1 g2 vn vp k O ns vt N P l :=
  ⟨h.K.drewN q, h.R.drewN q, h.T, h.apart, h.low, h.nn, h.len, below_drewN h.bel q⟩
theorem Both.more (h : Both w wr n g1 g2 vn vp k O ns vt N P l) : Both w wr n g1 g2 vn vp (k + 1) O ns vt N P l :=
  ⟨h.K, h.R, h.T, h.apart, h.low, h.nn, Nat.le_succ_of_le h.len, h.bel⟩
/-- the clocks have turned -/
theorem Both.left (h : Both w wr n g1 g2 vn vp k O ns vt N P l) (s3 : Sub O wr O3) (d3 : Chg O wr w3) : RS w3 g2 vn vp vt N P l ∧ (∀ b, O3 b → ¬ ROwn g2 vn vp vt b) ∧ Below w.heap.size w w3 :=
  ⟨h.R.other d3 h.apart, fun b hb hr => by
    rcases s3 b hb with h1 | h1
    · exact h.apart b h1 hr
    · have := h.R.top b hr; omega, h.bel.trans (d3.toBelow h.K.low h.bel.size)⟩
/-- then the document's -/
theorem both_right (hlow : ∀ b, ROwn g2 vn vp vt b → w.heap.size ≤ b) (K3 : ClkAt w.heap.size w3 O3 g1 ns3) (hd3 : ∀ b, O3 b → ¬ ROwn g2 vn vp vt b) (hb3 : Below w.heap.size w w3) (R4 : RS w4 g2 vn vp vt' N' P' l') (d4 : Chg (ROwn g2 vn vp vt) w3 w4) (hvt : ∀ b, vt'.ownBlock = some b → vt.ownBlock = some b ∨ w3.heap.size ≤ b) (hT : Twin ns3 N' P' l') (hnn : ns3.length = n) (hlen : l'.length ≤ k) :
    Both w w4 n g1 g2 vn vp k O3 ns3 vt' N' P' l' := by
  refine ⟨K3.other d4 fun b h1 h2 => hd3 b h1 h2, R4, hT, fun b hb hr => ?_, fun b hr => ?_, hnn, hlen, hb3.trans (d4.toBelow hlow hb3.size)⟩
  · rcases hr with e | e | e | e
    · exact hd3 b hb (.inl e)
    · exact hd3 b hb (.inr (.inl e))
    · exact hd3 b hb (.inr (.inr (.inl e)))
    · rcases hvt b e with h1 | h1
      · exact hd3 b hb (.inr (.inr (.inr h1)))
      · have := K3.top b hb; omega
  · rcases hr with e | e | e | e
    · exact hlow b (.inl e)
    · exact hlow b (.inr (.inl e))
    · exact hlow b (.inr (.inr (.inl e)))
    · rcases hvt b e with h1 | h1
      · exact hlow b (.inr (.inr (.inr h1)))
      · exact Nat.le_trans hb3.size h1
theorem Both.drift (_h : Both w wr n g1 g2 vn vp k O ns vt N P l) : ∃ D, driftN (ns.map PN.now) = D := ⟨_, rfl⟩
theorem twin_new (n : Nat) : Twin (List.replicate n pn0) (List.replicate n 0) (List.replicate n false) [] := by
  refine ⟨by simp [pn0], by simp [pn0], fun i p hi => ?_⟩
  have : p = pn0 := by
    obtain ⟨h1, h2⟩ := List.getElem?_eq_some_iff.1 hi
    rw [List.getElem_replicate] at h2
    exact h2.symm
  subst this
  exact ⟨List.Perm.refl _, by simp [pn0]⟩
end
end Go.Proofs.Ytcocakbopbehjaa
