import Derived.Test.YtbgdepaffgeinaaRAppend
namespace Go.Proofs.Ytbgdepaffgeinaa

theorem scan_spec {base bt : Nat} {es : List Ent} (ys : List Ent) : ∀ {i f : Nat} {E : List Ent}, base < i → i ≤ base + es.length + 1 → scan base bt es i ys = (E, f) →
    (f = 0 ∧ E = es ∧ i + ys.length ≤ base + es.length + 1 ∧ ∀ (j : Nat) (y : Ent), ys[j]? = some y → termAt base bt es (i + j) = y.t) ∨
    (∃ k, k < ys.length ∧ f = i + k ∧ f ≤ base + es.length + 1 ∧ E = es.take (f - base - 1) ++ ys.drop k ∧ ∀ (j : Nat) (y : Ent), j < k → ys[j]? = some y → termAt base bt es (i + j) = y.t) := by
  induction ys with
  | nil =>
    intro i f E _ h2 h
    simp only [scan, Prod.mk.injEq] at h
    obtain ⟨rfl, rfl⟩ := h
    exact .inl ⟨rfl, rfl, by simpa using h2, fun j y hy => by simp at hy⟩
  | cons x xs ih =>
    intro i f E h1 h2 h
    by_cases hc : i ≤ base + es.length ∧ termAt base bt es i = x.t
    · rw [scan_yes hc.1 hc.2] at h
      rcases ih (by omega) (by omega) h with ⟨r1, r2, r3, r4⟩ | ⟨k, r1, r2, r3, r4, r5⟩
      · refine .inl ⟨r1, r2, by simp; omega, fun j y hy => ?_⟩
        match j, hy with
        | 0, hy => simp at hy; subst hy; simpa using hc.2
        | j + 1, hy => rw [show i + (j + 1) = i + 1 + j by omega]; exact r4 j y (by simpa using hy)
      · refine .inr ⟨k + 1, by simp; omega, by omega, r3, by simpa using r4, fun j y hj hy => ?_⟩
        match j, hy with
        | 0, hy => simp at hy; subst hy; simpa using hc.2
        | j + 1, hy => rw [show i + (j + 1) = i + 1 + j by omega]; exact r5 j y (by omega) (by simpa using hy)
    · rw [scan_no hc] at h
      simp only [Prod.mk.injEq] at h
      obtain ⟨rfl, rfl⟩ := h
      exact .inr ⟨0, by simp, rfl, h2, by simp, fun j y hj => by omega⟩
/-- what holds behind scan -/
structure Held (base bt : Nat) (es : List Ent) (i : Nat) (ys E : List Ent) (f : Nat) : Prop where
  has : ∀ (j : Nat) (y : Ent), ys[j]? = some y → i + j ≤ base + E.length ∧ termAt base bt E (i + j) = y.t
  old : ∀ q, q < i → termAt base bt E q = termAt base bt es q
  len : i + ys.length ≤ base + E.length + 1
  new : f ≠ 0 → i + ys.length = base + E.length + 1
  mem : ∀ e ∈ E, e ∈ es ∨ e ∈ ys
  bound : E.length ≤ es.length + ys.length
theorem termAt_app {base bt : Nat} {es zs : List Ent} {m q : Nat} (hq : q ≤ base + m) (hm : m ≤ es.length) : termAt base bt (es.take m ++ zs) q = termAt base bt es q := by
  unfold termAt entAt
  by_cases h : q = base
  · rw [if_pos h, if_pos h]
  · rw [if_neg h, if_neg h]
    by_cases h2 : base < q
    · rw [if_pos h2, if_pos h2, List.getElem?_append_left (by simp; omega), List.getElem?_take, if_pos (by omega)]
    · rw [if_neg h2, if_neg h2]
theorem held_of_scan {base bt : Nat} {es ys E : List Ent} {i f : Nat} (h1 : base < i) (h2 : i ≤ base + es.length + 1) (h : scan base bt es i ys = (E, f)) : Held base bt es i ys E f := by
  rcases scan_spec ys h1 h2 h with ⟨rfl, rfl, r3, r4⟩ | ⟨k, r1, r2, r3, r4, r5⟩
  · refine ⟨fun j y hy => ⟨?_, r4 j y hy⟩, fun _ _ => rfl, r3, fun h => absurd rfl h, fun e he => .inl he, by omega⟩
    have := (List.getElem?_eq_some_iff.1 hy).1
    omega
  · have hl : E.length = f - base - 1 + (ys.length - k) := by rw [r4]; simp; omega
    refine ⟨fun j y hy => ?_, fun q hq => ?_, by omega, fun _ => by omega, fun e he => ?_, by omega⟩
    · have hj := (List.getElem?_eq_some_iff.1 hy).1
      refine ⟨by omega, ?_⟩
      by_cases hjk : j < k
      · rw [r4, termAt_app (by omega) (by omega)]
        exact r5 j y hjk hy
      · rw [r4]
        unfold termAt
        rw [if_neg (by omega), entAt_in (by omega) (e := y)]
        rw [List.getElem?_append_right (by simp; omega), List.getElem?_drop, ← hy]
        congr 1
        simp
        omega
    · rw [r4, termAt_app (by omega) (by omega)]
    · rw [r4] at he
      rcases List.mem_append.1 he with h | h
      · exact .inl (List.mem_of_mem_take h)
      · exact .inr (List.mem_of_mem_drop h)
theorem scan_same {base bt : Nat} {E : List Ent} (ys : List Ent) : ∀ {i : Nat}, (∀ (j : Nat) (y : Ent), ys[j]? = some y → i + j ≤ base + E.length ∧ termAt base bt E (i + j) = y.t) → scan base bt E i ys = (E, 0) := by
  induction ys with
  | nil => intro i _; rfl
  | cons x xs ih =>
    intro i h
    obtain ⟨h1, h2⟩ := h 0 x (by simp)
    rw [scan_yes (by simpa using h1) (by simpa using h2)]
    refine ih fun j y hy => ?_
    have := h (j + 1) y (by simpa using hy)
    rwa [show i + (j + 1) = i + 1 + j by omega] at this
/-- where Append begins, and with what -/
theorem appendF_ok {base bt : Nat} {es xs E : List Ent} {prev pt f : Nat} (h : appendF base bt es prev pt xs = (E, f, 0)) :
    fitsE base bt es prev pt xs.length = 0 ∧ scan base bt es (max prev base + 1) (xs.drop (base - prev)) = (E, f) := by
  unfold appendF at h
  by_cases h0 : fitsE base bt es prev pt xs.length = 0
  · refine ⟨h0, ?_⟩
    rw [if_neg (by rw [h0]; simp)] at h
    by_cases h1 : prev < base
    · rw [if_pos h1] at h
      simp only [Prod.mk.injEq] at h
      rw [show max prev base = base by omega, ← h.1, ← h.2.1]
    · rw [if_neg h1] at h
      simp only [Prod.mk.injEq] at h
      rw [show max prev base = prev by omega, show base - prev = 0 by omega, List.drop_zero, ← h.1, ← h.2.1]
  · rw [if_pos h0] at h
    simp only [Prod.mk.injEq] at h
    exact absurd h.2.2 h0
theorem appendF_bad {base bt : Nat} {es xs E : List Ent} {prev pt f c : Nat} (h : appendF base bt es prev pt xs = (E, f, c)) (hc : c ≠ 0) : E = es ∧ f = 0 := by
  unfold appendF at h
  by_cases h0 : fitsE base bt es prev pt xs.length = 0
  · rw [if_neg (by rw [h0]; simp)] at h
    by_cases h1 : prev < base
    · rw [if_pos h1] at h
      simp only [Prod.mk.injEq] at h
      exact absurd h.2.2.symm hc
    · rw [if_neg h1] at h
      simp only [Prod.mk.injEq] at h
      exact absurd h.2.2.symm hc
  · rw [if_pos h0] at h
    simp only [Prod.mk.injEq] at h
    exact ⟨h.1.symm, h.2.1.symm⟩
theorem appendF_make {base bt : Nat} {es xs : List Ent} {prev pt : Nat} (h : fitsE base bt es prev pt xs.length = 0) :
    appendF base bt es prev pt xs = ((scan base bt es (max prev base + 1) (xs.drop (base - prev))).1, (scan base bt es (max prev base + 1) (xs.drop (base - prev))).2, 0) := by
  unfold appendF
  rw [if_neg (by rw [h]; simp)]
  by_cases h1 : prev < base
  · rw [if_pos h1, show max prev base = base by omega]
  · rw [if_neg h1, show max prev base = prev by omega, show base - prev = 0 by omega, List.drop_zero]
theorem appendF_held {base bt : Nat} {es xs E : List Ent} {prev pt f : Nat} (h : appendF base bt es prev pt xs = (E, f, 0)) :
    Held base bt es (max prev base + 1) (xs.drop (base - prev)) E f ∧ prev ≤ base + es.length ∧ (prev < base → base - prev < xs.length) := by
  obtain ⟨h0, h1⟩ := appendF_ok h
  obtain ⟨h2, h3⟩ := fitsE_ok h0
  exact ⟨held_of_scan (by omega) (by omega) h1, h2, h3⟩
/-- every entry of what Append answers comes from the log or from the entries -/
theorem appendF_mem {base bt : Nat} {es xs E : List Ent} {prev pt f c : Nat} (h : appendF base bt es prev pt xs = (E, f, c)) : (∀ e ∈ E, e ∈ es ∨ e ∈ xs) ∧ E.length ≤ es.length + xs.length := by
  by_cases hc : c = 0
  · subst hc
    obtain ⟨h1, _, _⟩ := appendF_held h
    refine ⟨fun e he => (h1.mem e he).imp id List.mem_of_mem_drop, ?_⟩
    have := h1.bound
    simp at this
    omega
  · obtain ⟨rfl, _⟩ := appendF_bad h hc
    exact ⟨fun e he => .inl he, by omega⟩
/-- behind an Append each entry has its term -/
theorem held_term {base bt : Nat} {es xs E : List Ent} {prev pt f : Nat} (h : appendF base bt es prev pt xs = (E, f, 0)) {k : Nat} {x : Ent} (hx : xs[k]? = some x) (hk : base < prev + 1 + k) :
    prev + 1 + k ≤ base + E.length ∧ termAt base bt E (prev + 1 + k) = x.t := by
  obtain ⟨h1, _, _⟩ := appendF_held h
  have := h1.has (k - (base - prev)) x (by rw [List.getElem?_drop, ← hx]; congr 1; omega)
  rwa [show max prev base + 1 + (k - (base - prev)) = prev + 1 + k by omega] at this
theorem held_old {base bt : Nat} {es xs E : List Ent} {prev pt f : Nat} (h : appendF base bt es prev pt xs = (E, f, 0)) {q : Nat} (hq : q ≤ prev) (_hb : base ≤ q) : termAt base bt E q = termAt base bt es q ∧ q ≤ base + es.length ∧ q ≤ base + E.length := by
  obtain ⟨h1, h2, h3⟩ := appendF_held h
  have := h1.len
  simp at this
  exact ⟨h1.old q (by omega), by omega, by omega⟩
theorem held_len {base bt : Nat} {es xs E : List Ent} {prev pt f : Nat} (h : appendF base bt es prev pt xs = (E, f, 0)) : prev + xs.length ≤ base + E.length ∧ (f ≠ 0 → base + E.length = prev + xs.length) := by
  obtain ⟨h1, h2, h3⟩ := appendF_held h
  have a := h1.len
  have b := h1.new
  simp at a b
  exact ⟨by omega, fun hf => by have := b hf; omega⟩
theorem fitsE_again {base bt : Nat} {es xs E : List Ent} {prev pt f : Nat} (h : appendF base bt es prev pt xs = (E, f, 0)) (m : Nat) : fitsE base bt E prev pt m = 0 ∨ fitsE base bt E prev pt m = 61 := by
  obtain ⟨h0, _⟩ := appendF_ok h
  obtain ⟨h1, h2, h3⟩ := appendF_held h
  have a := held_len h
  unfold fitsE
  rw [if_neg (by omega)]
  by_cases hp : prev < base
  · rw [if_pos hp]
    by_cases hm : prev + m ≤ base
    · rw [if_pos hm]; exact .inr rfl
    · rw [if_neg hm]; exact .inl rfl
  · rw [if_neg hp, (held_old h (Nat.le_refl prev) (by omega)).1]
    unfold fitsE at h0
    rw [if_neg (by omega), if_neg hp] at h0
    by_cases ht : termAt base bt es prev = pt
    · rw [if_pos ht]; exact .inl rfl
    · rw [if_neg ht] at h0; cases h0
/-- the beginning of it once more changes nothing -/
theorem append_again {base bt : Nat} {es xs E : List Ent} {prev pt f : Nat} (h : appendF base bt es prev pt xs = (E, f, 0)) (m : Nat) : ∃ g, appendF base bt E prev pt (xs.take m) = (E, 0, g) ∧ (g = 0 ∨ g = 61) ∧ (xs.length ≤ m → g = 0) := by
  obtain ⟨h1, h2, h3⟩ := appendF_held h
  rcases fitsE_again h (xs.take m).length with h0 | h0
  · refine ⟨0, ?_, .inl rfl, fun _ => rfl⟩
    rw [appendF_make h0]
    have hs : scan base bt E (max prev base + 1) ((xs.take m).drop (base - prev)) = (E, 0) := by
      refine scan_same _ fun j y hy => h1.has j y ?_
      rw [List.getElem?_drop, List.getElem?_take] at hy
      rw [List.getElem?_drop]
      split at hy
      · exact hy
      · cases hy
    rw [hs]
  · refine ⟨61, ?_, .inr rfl, fun hm => ?_⟩
    · unfold appendF
      rw [if_pos (by rw [h0]; decide), h0]
    · rw [List.take_of_length_le hm] at h0
      unfold fitsE at h0
      have a := held_len h
      rw [if_neg (by omega)] at h0
      by_cases hp : prev < base
      · rw [if_pos hp, if_neg (by have := h3 hp; omega)] at h0; cases h0
      · rw [if_neg hp] at h0
        split at h0 <;> cases h0
end Go.Proofs.Ytbgdepaffgeinaa
