/- The document's clocks, plain, beside the program's. -/
import Derived.Test.YtcocakbopbehjaaPClock
namespace Go.Proofs.Ytcocakbopbehjaa
abbrev RT := Int × Tm      -- whose, its number, when
def rsel (nd : Int) (l : List RT) : List Tm := (l.filter fun t => decide (t.1 = nd)).map (·.2)
def isT (nd id : Int) (t : RT) : Bool := decide (t.1 = nd ∧ t.2.1 = id)
def rwo (nd id : Int) (l : List RT) : List RT := l.filter fun t => !isT nd id t
theorem rsel_append (nd : Int) (l m : List RT) : rsel nd (l ++ m) = rsel nd l ++ rsel nd m := by simp [rsel]
theorem rsel_cons (nd : Int) (t : RT) (l : List RT) : rsel nd (t :: l) = if t.1 = nd then t.2 :: rsel nd l else rsel nd l := by
  unfold rsel
  rw [List.filter_cons]
  by_cases h : t.1 = nd <;> simp [h]
theorem rwo_cons (nd id : Int) (t : RT) (l : List RT) : rwo nd id (t :: l) = if t.1 = nd ∧ t.2.1 = id then rwo nd id l else t :: rwo nd id l := by
  unfold rwo isT
  rw [List.filter_cons]
  by_cases h : t.1 = nd ∧ t.2.1 = id <;> simp [h]
theorem rsel_rwo (nd id : Int) : ∀ l, rsel nd (rwo nd id l) = (rsel nd l).filter fun t => !decide (t.1 = id)
  | [] => rfl
  | t :: l => by
    have ih := rsel_rwo nd id l
    rw [rsel_cons, rwo_cons]
    by_cases h : t.1 = nd
    · rw [if_pos h, List.filter_cons]
      by_cases h2 : t.2.1 = id
      · rw [if_pos ⟨h, h2⟩, ih]; simp [h2]
      · rw [if_neg (fun e => h2 e.2), rsel_cons, if_pos h, ih]; simp [h2]
    · rw [if_neg (fun e => h e.1), if_neg h, rsel_cons, if_neg h, ih]
theorem rsel_rwo_ne {nd nd' : Int} (hn : nd' ≠ nd) (id : Int) : ∀ l, rsel nd' (rwo nd id l) = rsel nd' l
  | [] => rfl
  | t :: l => by
    have ih := rsel_rwo_ne hn id l
    rw [rsel_cons, rwo_cons]
    by_cases h : t.1 = nd
    · have h' : ¬ t.1 = nd' := fun e => hn (e.symm.trans h)
      rw [if_neg h']
      by_cases h2 : t.2.1 = id
      · rw [if_pos ⟨h, h2⟩, ih]
      · rw [if_neg (fun e => h2 e.2), rsel_cons, if_neg h', ih]
    · rw [if_neg (fun e => h e.1), rsel_cons, ih]
/-! ### places -/
theorem fidx_lt {id : Int} {l : List Tm} : fidx id l < l.length ↔ id ∈ l.map (·.1) := by
  unfold fidx
  rw [List.findIdx_lt_length]
  simp
theorem fidx_at {id : Int} {l : List Tm} (h : fidx id l < l.length) : (l[fidx id l]'h).1 = id := by
  have := List.findIdx_getElem (w := h)
  exact of_decide_eq_true this
theorem filter_all_ne {id : Int} {l : List Tm} (h : id ∉ l.map (·.1)) : (l.filter fun t => !decide (t.1 = id)) = l := by
  refine List.filter_eq_self.2 fun t ht => ?_
  have : t.1 ≠ id := fun e => h (e ▸ List.mem_map.2 ⟨t, ht, rfl⟩)
  simp [this]
theorem erase_filter {id : Int} : ∀ {l : List Tm}, (l.map (·.1)).Nodup → fidx id l < l.length → l.eraseIdx (fidx id l) = l.filter fun t => !decide (t.1 = id)
  | [], _, h => by simp at h
  | t :: l, hn, h => by
    obtain ⟨h1, h2⟩ := List.nodup_cons.1 hn
    unfold fidx at h ⊢
    rw [List.findIdx_cons] at h ⊢
    by_cases he : t.1 = id
    · simp only [he, decide_true, cond_true, List.eraseIdx_zero, List.tail_cons]
      rw [List.filter_cons]
      simp only [he, decide_true, Bool.not_true, Bool.false_eq_true, if_false]
      exact (filter_all_ne (by rw [← he]; exact h1)).symm
    · simp only [he, decide_false, cond_false, List.eraseIdx_cons_succ, List.length_cons] at h ⊢
      have ih := erase_filter (id := id) (l := l) h2 (by unfold fidx; omega)
      unfold fidx at ih
      rw [List.filter_cons, ih]
      simp [he]
theorem set_perm (x : Tm) : ∀ (l : List Tm) (k : Nat), k < l.length → (l.set k x).Perm (l.eraseIdx k ++ [x])
  | [], k, h => by simp at h
  | t :: l, 0, _ => by
    simp only [List.set_cons_zero, List.eraseIdx_cons_zero]
    exact (List.perm_append_comm (l₁ := l) (l₂ := [x])).symm
  | t :: l, k + 1, h => by
    simp only [List.set_cons_succ, List.eraseIdx_cons_succ, List.cons_append]
    exact (set_perm x l k (by simpa using h)).cons t
theorem map_eraseIdx' {α β : Type} (f : α → β) : ∀ (l : List α) (k : Nat), (l.eraseIdx k).map f = (l.map f).eraseIdx k
  | [], _ => rfl
  | _ :: _, 0 => rfl
  | a :: l, k + 1 => by simp [map_eraseIdx' f l k]
theorem nodup_inj {α : Type} {l : List α} (h : l.Nodup) {i j : Nat} (hi : i < l.length) (hj : j < l.length) (e : l[i] = l[j]) : i = j := by
  have hp := List.pairwise_iff_getElem.1 h
  rcases Nat.lt_trichotomy i j with h1 | h1 | h1
  · exact absurd e (hp i j hi hj h1)
  · exact h1
  · exact absurd e.symm (hp j i hj hi h1)
theorem perm_erase {α : Type} : ∀ (l : List α) (k : Nat) (h : k < l.length), l.Perm (l[k] :: l.eraseIdx k)
  | [], k, h => by simp at h
  | a :: l, 0, _ => List.Perm.refl _
  | a :: l, k + 1, h => by
    simp only [List.getElem_cons_succ, List.eraseIdx_cons_succ]
    exact ((perm_erase l k (by simpa using h)).cons a).trans (List.Perm.swap _ _ _)
/-! ### one node beside the document's timers -/
structure Like (i : Int) (p : PN) (l : List RT) : Prop where
  perm : p.ts.Perm (rsel i l)
  nd : (p.ts.map (·.1)).Nodup
theorem Like.mem {i : Int} {p : PN} {l : List RT} (h : Like i p l) (id : Int) : id ∈ p.ts.map (·.1) ↔ ∃ t ∈ l, t.1 = i ∧ t.2.1 = id := by
  rw [(h.perm.map (·.1)).mem_iff]
  simp only [rsel, List.map_map, List.mem_map, List.mem_filter, Function.comp, decide_eq_true_eq]
  constructor
  · rintro ⟨t, ⟨h1, h2⟩, h3⟩; exact ⟨t, h1, h2, h3⟩
  · rintro ⟨t, h1, h2, h3⟩; exact ⟨t, ⟨h1, h2⟩, h3⟩
theorem Like.many {i : Int} {p : PN} {l : List RT} (h : Like i p l) : p.ts.length = (rsel i l).length := h.perm.length_eq
theorem Like.other {i j : Int} {p : PN} {l : List RT} (h : Like i p l) (hn : i ≠ j) (id : Int) (a : Nat) : Like i p (rwo j id l ++ [(j, id, a)]) :=
  ⟨by rw [rsel_append, rsel_rwo_ne hn, rsel_cons, if_neg (fun e => hn e.symm)]; simpa [rsel] using h.perm, h.nd⟩
theorem Like.other' {i j : Int} {p : PN} {l : List RT} (h : Like i p l) (hn : i ≠ j) (id : Int) : Like i p (rwo j id l) :=
  ⟨by rw [rsel_rwo_ne hn]; exact h.perm, h.nd⟩
theorem Like.same {i : Int} {p q : PN} {l : List RT} (h : Like i p l) (e : q.ts = p.ts) : Like i q l := ⟨e ▸ h.perm, e ▸ h.nd⟩
theorem Like.put {i : Int} {p : PN} {l : List RT} (h : Like i p l) {id : Int} (hm : fidx id p.ts < p.ts.length) (a b : Nat) (c : Bool) : Like i ⟨b, p.ts.set (fidx id p.ts) (id, a), c⟩ (rwo i id l ++ [(i, id, a)]) := by
  refine ⟨?_, ?_⟩
  · rw [rsel_append, rsel_rwo, rsel_cons, if_pos rfl]
    refine (set_perm _ _ _ hm).trans ?_
    rw [erase_filter h.nd hm]
    exact (h.perm.filter _).append_right _
  · have : (p.ts.set (fidx id p.ts) (id, a)).map (·.1) = p.ts.map (·.1) := by
      apply List.ext_getElem?
      intro k
      rw [List.getElem?_map, List.getElem?_map, List.getElem?_set]
      split
      · next hk =>
        subst hk
        first | rw [if_pos hm, List.getElem?_eq_getElem hm] | rw [List.getElem?_eq_getElem hm]
        simp [fidx_at hm]
      · rfl
    show ((p.ts.set (fidx id p.ts) (id, a)).map (·.1)).Nodup
    rw [this]; exact h.nd
theorem Like.add {i : Int} {p : PN} {l : List RT} (h : Like i p l) {id : Int} (hm : ¬ fidx id p.ts < p.ts.length) (a b : Nat) (c : Bool) : Like i ⟨b, p.ts ++ [(id, a)], c⟩ (rwo i id l ++ [(i, id, a)]) := by
  have hm' : id ∉ p.ts.map (·.1) := fun h' => hm (fidx_lt.2 h')
  refine ⟨?_, ?_⟩
  · rw [rsel_append, rsel_rwo, rsel_cons, if_pos rfl]
    refine List.Perm.append_right _ ?_
    have := h.perm.filter fun t => !decide (t.1 = id)
    rwa [filter_all_ne hm'] at this
  · simp only [List.map_append, List.map_cons, List.map_nil]
    exact List.nodup_append.2 ⟨h.nd, by simp, fun x hx y hy => by rw [List.mem_singleton.1 hy]; exact fun e => hm' (e ▸ hx)⟩
theorem Like.del {i : Int} {p : PN} {l : List RT} (h : Like i p l) {id : Int} (hm : fidx id p.ts < p.ts.length) (b : Nat) (c : Bool) : Like i ⟨b, p.ts.eraseIdx (fidx id p.ts), c⟩ (rwo i id l) := by
  refine ⟨?_, ?_⟩
  · rw [rsel_rwo]
    show (p.ts.eraseIdx _).Perm _
    rw [erase_filter h.nd hm]
    exact h.perm.filter _
  · show ((p.ts.eraseIdx (fidx id p.ts)).map (·.1)).Nodup
    rw [map_eraseIdx']
    exact h.nd.eraseIdx _
/-! ### what is due -/
def rlate (nd : Int) (now : Nat) (l : List RT) : List Tm := (rsel nd l).filter (lateb now)
/-- the first that is due, behind one that was found -/
def rbest (nd : Int) (now : Nat) (b : Option Tm) (t : RT) : Option Tm :=
  if t.1 = nd ∧ t.2.2 ≤ now then (match b with | none => some t.2 | some u => if tlt t.2 u then some t.2 else some u) else b
def rfirst (nd : Int) (now : Nat) (l : List RT) : Option Tm := l.foldl (rbest nd now) none
theorem rfirst_go (nd : Int) (now : Nat) : ∀ (l : List RT) (b : Option Tm), match l.foldl (rbest nd now) b with
    | none => b = none ∧ rlate nd now l = []
    | some t => (b = some t ∨ t ∈ rlate nd now l) ∧ (∀ u, b = some u → tle t u) ∧ ∀ u ∈ rlate nd now l, tle t u
  | [], b => by
    cases b with
    | none => exact ⟨rfl, rfl⟩
    | some t => exact ⟨.inl rfl, fun u e => by injection e with e; subst e; rw [tle_iff]; omega, fun u hu => by simp [rlate, rsel] at hu⟩
  | t :: l, b => by
    have ih := rfirst_go nd now l (rbest nd now b t)
    rw [List.foldl_cons]
    have hl : rlate nd now (t :: l) = if t.1 = nd ∧ t.2.2 ≤ now then t.2 :: rlate nd now l else rlate nd now l := by
      unfold rlate
      rw [rsel_cons]
      by_cases h1 : t.1 = nd
      · by_cases h2 : t.2.2 ≤ now
        · simp [h1, h2, lateb]
        · simp [h1, h2, lateb]
      · simp [h1]
    rw [hl]
    generalize hr : l.foldl (rbest nd now) (rbest nd now b t) = r at ih
    by_cases h : t.1 = nd ∧ t.2.2 ≤ now
    · rw [if_pos h]
      unfold rbest at ih
      rw [if_pos h] at ih
      cases r with
      | none =>
        obtain ⟨h1, h2⟩ := ih
        cases b with
        | none => simp at h1
        | some u => simp only at h1; split at h1 <;> cases h1
      | some x =>
        obtain ⟨h1, h2, h3⟩ := ih
        cases b with
        | none =>
          simp only at h1 h2
          refine ⟨.inr ?_, fun u e => (by cases e), fun u hu => ?_⟩
          · rcases h1 with h1 | h1
            · injection h1 with h1; subst h1; exact List.mem_cons_self
            · exact List.mem_cons_of_mem _ h1
          · rcases List.mem_cons.1 hu with rfl | hu
            · exact h2 _ rfl
            · exact h3 _ hu
        | some v =>
          simp only at h1 h2
          by_cases hv : tlt t.2 v = true
          · rw [if_pos hv] at h1 h2
            refine ⟨.inr ?_, fun u e => ?_, fun u hu => ?_⟩
            · rcases h1 with h1 | h1
              · injection h1 with h1; subst h1; exact List.mem_cons_self
              · exact List.mem_cons_of_mem _ h1
            · injection e with e; subst e
              exact tle_trans (h2 _ rfl) (tle_of_lt hv)
            · rcases List.mem_cons.1 hu with rfl | hu
              · exact h2 _ rfl
              · exact h3 _ hu
          · rw [if_neg hv] at h1 h2
            refine ⟨?_, fun u e => ?_, fun u hu => ?_⟩
            · rcases h1 with h1 | h1
              · exact .inl h1
              · exact .inr (List.mem_cons_of_mem _ h1)
            · exact h2 u e
            · rcases List.mem_cons.1 hu with rfl | hu
              · exact tle_trans (h2 _ rfl) (by unfold tle; simpa using hv)
              · exact h3 _ hu
    · rw [if_neg h]
      unfold rbest at ih
      rw [if_neg h] at ih
      exact ih
theorem rfirst_none {nd : Int} {now : Nat} {l : List RT} (h : rfirst nd now l = none) : rlate nd now l = [] := by
  have := rfirst_go nd now l none
  unfold rfirst at h
  rw [h] at this
  exact this.2
theorem rfirst_some {nd : Int} {now : Nat} {l : List RT} {t : Tm} (h : rfirst nd now l = some t) : t ∈ rlate nd now l ∧ ∀ u ∈ rlate nd now l, tle t u := by
  have := rfirst_go nd now l none
  unfold rfirst at h
  rw [h] at this
  rcases this with ⟨h1 | h1, h2, h3⟩
  · cases h1
  · exact ⟨h1, h3⟩
theorem rlate_rwo (nd id : Int) (now : Nat) (l : List RT) : rlate nd now (rwo nd id l) = (rlate nd now l).filter fun t => !decide (t.1 = id) := by
  unfold rlate
  rw [rsel_rwo, List.filter_filter, List.filter_filter]
  congr 1
  funext t
  exact Bool.and_comm _ _
/-- each step takes the first of what is due -/
theorem rdue_step {nd : Int} {now : Nat} {l : List RT} {t : Tm} (hn : ((rsel nd l).map (·.1)).Nodup) (h : rfirst nd now l = some t) : tsort (rlate nd now l) = t :: tsort (rlate nd now (rwo nd t.1 l)) := by
  obtain ⟨h1, h2⟩ := rfirst_some h
  have hnl : ((rlate nd now l).map (·.1)).Nodup := hn.sublist ((List.filter_sublist).map _)
  obtain ⟨k, hk, hkt⟩ := List.getElem_of_mem h1
  have hidx : fidx t.1 (rlate nd now l) < (rlate nd now l).length := fidx_lt.2 (List.mem_map.2 ⟨t, h1, rfl⟩)
  have hf := fidx_at hidx
  have he := erase_filter hnl hidx
  rw [rlate_rwo, ← he]
  have hx : (rlate nd now l)[fidx t.1 (rlate nd now l)] = t := by
    have hki : k = fidx t.1 (rlate nd now l) := by
      refine nodup_inj hnl (by simpa using hk) (by simpa using hidx) ?_
      rw [List.getElem_map, List.getElem_map, hkt, hf]
    subst hki
    exact hkt
  have hp : (rlate nd now l).Perm (t :: (rlate nd now l).eraseIdx (fidx t.1 (rlate nd now l))) := by
    have := perm_erase _ _ hidx
    rw [hx] at this
    exact this
  rw [tsort_congr hp]
  exact tsort_min fun u hu => h2 u (List.mem_of_mem_eraseIdx hu)
theorem rest_step {nd : Int} {now : Nat} {l : List RT} {t : Tm} (hn : ((rsel nd l).map (·.1)).Nodup) (h : rfirst nd now l = some t) : ((rsel nd (rwo nd t.1 l)).filter fun u => !lateb now u) = (rsel nd l).filter fun u => !lateb now u := by
  obtain ⟨h1, h2⟩ := rfirst_some h
  rw [rsel_rwo, List.filter_filter]
  refine List.filter_congr fun u hu => ?_
  by_cases he : u.1 = t.1
  · have : u = t := by
      have h3 := (List.mem_filter.1 h1).1
      obtain ⟨i, hi, rfl⟩ := List.getElem_of_mem hu
      obtain ⟨j, hj, rfl⟩ := List.getElem_of_mem h3
      have hij : i = j := nodup_inj hn (by simpa using hi) (by simpa using hj) (by rw [List.getElem_map, List.getElem_map, he])
      subst hij
      rfl
    subst this
    have h4 := (List.mem_filter.1 h1).2
    simp [h4]
  · simp [he]
theorem Like.due {i : Int} {p : PN} {l l' : List RT} (h : Like i p l) (h0 : rlate i p.now l' = []) (h1 : ((rsel i l').filter fun u => !lateb p.now u) = (rsel i l).filter fun u => !lateb p.now u) (c : Bool) : Like i ⟨p.now, rests p, c⟩ l' := by
  refine ⟨?_, ?_⟩
  · show (rests p).Perm _
    have h2 : (rsel i l').filter (fun u => !lateb p.now u) = rsel i l' := List.filter_eq_self.2 fun u hu => by
      rcases hb : lateb p.now u with _ | _
      · rfl
      · have : u ∈ rlate i p.now l' := List.mem_filter.2 ⟨hu, hb⟩
        rw [h0] at this
        cases this
    rw [← h2, h1]
    exact h.perm.filter _
  · exact h.nd.sublist ((List.filter_sublist).map _)
theorem Like.late {i : Int} {p : PN} {l : List RT} (h : Like i p l) : tsort (lates p) = tsort (rlate i p.now l) := tsort_congr (h.perm.filter _)
end Go.Proofs.Ytcocakbopbehjaa
