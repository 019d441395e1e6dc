import Derived.Test.YtbgdepaffgeinaaRHint
namespace Go.Proofs.Ytbgdepaffgeinaa

theorem downs_cons (base bt : Nat) (es : List Ent) (p k : Nat) : downs base bt es p (k + 1) = (p, termAt base bt es p) :: downs base bt es (p - 1) k := by
  unfold downs
  rw [List.range_succ_eq_map]
  simp only [List.map_cons, List.map_map]
  refine congrArg _ ?_
  apply List.map_congr_left
  intro j _
  show (p - (j + 1), termAt base bt es (p - (j + 1))) = (p - 1 - j, termAt base bt es (p - 1 - j))
  rw [show p - (j + 1) = p - 1 - j by omega]
theorem best_flat {base bt : Nat} {es : List Ent} {own p k m : Nat} (h : p ≤ base + k) (hm : k ≤ m) : best base bt es own p m = best base bt es own p k := by
  induction m with
  | zero => obtain rfl : k = 0 := by omega
            rfl
  | succ m ih =>
    by_cases hk : k = m + 1
    · rw [hk]
    · rw [best_no (by omega), ih (by omega)]
theorem best_scan {base bt : Nat} {es : List Ent} {own p : Nat} (j : Nat) (h : base + j < p) : hscan own base (downs base bt es (base + j) (j + 1)) = best base bt es own p (j + 1) := by
  induction j with
  | zero =>
    have : best base bt es own p 1 = base := by unfold best; split <;> simp [best]
    rw [this, downs_cons]
    simp [downs, hscan]
  | succ j ih =>
    rw [downs_cons, show base + (j + 1) - 1 = base + j by omega]
    simp only [hscan]
    by_cases ht : termAt base bt es (base + (j + 1)) = own
    · rw [if_pos ht, ih (by omega), best_no (k := j + 1) (fun h => h.2 ht)]
    · rw [if_neg ht, best_yes h ht]
theorem hint_eq (base bt : Nat) (es : List Ent) (prev : Nat) : hintF base bt es prev = rhintF base bt es prev := by
  unfold hintF rhintF
  have hpn : min prev (base + es.length) ≤ base + es.length := by omega
  generalize min prev (base + es.length) = p at hpn ⊢
  by_cases h : p ≤ base
  · rw [if_pos h, if_pos h]
  · rw [if_neg h, if_neg h]
    obtain ⟨j, rfl⟩ : ∃ j, p = base + (j + 1) := ⟨p - base - 1, by omega⟩
    rw [show base + (j + 1) - base + 1 = (j + 1) + 1 by omega, downs_cons, show base + (j + 1) - 1 = base + j by omega]
    simp only [hscan]
    rw [if_pos trivial, best_scan j (p := base + (j + 1)) (by omega)]
    exact (best_flat (by omega) (by omega)).symm
theorem best_spec {base bt : Nat} {es : List Ent} {own p : Nat} (hp : base < p) (k : Nat) : base ≤ best base bt es own p k ∧ best base bt es own p k < p ∧ (base < best base bt es own p k → termAt base bt es (best base bt es own p k) ≠ own) ∧
    ∀ i, best base bt es own p k < i → i < p → i < base + k → termAt base bt es i = own := by
  induction k with
  | zero => exact ⟨Nat.le_refl _, hp, fun h => absurd h (Nat.lt_irrefl _), fun i h1 _ h3 => by simp only [best] at h1; omega⟩
  | succ k ih =>
    by_cases h : base + k < p ∧ termAt base bt es (base + k) ≠ own
    · rw [best_yes h.1 h.2]
      exact ⟨by omega, h.1, fun _ => h.2, fun i h1 _ h3 => by omega⟩
    · rw [best_no h]
      refine ⟨ih.1, ih.2.1, ih.2.2.1, fun i h1 h2 h3 => ?_⟩
      by_cases hik : i = base + k
      · subst hik
        exact Decidable.byContradiction fun hne => h ⟨h2, hne⟩
      · exact ih.2.2.2 i h1 h2 (by omega)
theorem hint_low {base bt : Nat} {es : List Ent} {prev : Nat} (h : min prev (base + es.length) ≤ base) : hintF base bt es prev = base := by unfold hintF; rw [if_pos h]
theorem hint_spec {base bt : Nat} {es : List Ent} {prev p : Nat} (hp : min prev (base + es.length) = p) (h : base < p) : base ≤ hintF base bt es prev ∧ hintF base bt es prev < p ∧ (base < hintF base bt es prev → termAt base bt es (hintF base bt es prev) ≠ termAt base bt es p) ∧
    ∀ i, hintF base bt es prev < i → i ≤ p → termAt base bt es i = termAt base bt es p := by
  rw [hint_eq]
  unfold rhintF
  have hpn : p ≤ base + es.length := by omega
  rw [hp, if_neg (by omega)]
  obtain ⟨h1, h2, h3, h4⟩ := best_spec (bt := bt) (es := es) (own := termAt base bt es p) h (es.length + 1)
  refine ⟨h1, h2, h3, fun i a b => ?_⟩
  by_cases hip : i = p
  · rw [hip]
  · exact h4 i a (by omega) (by omega)
end Go.Proofs.Ytbgdepaffgeinaa
